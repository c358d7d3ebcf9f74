/- Contract of do: a weak object's pointer is loaded. Conditions: right deeds, lists shorter than 2^40. -/
import Derived.Test.YtbjknkgefpeohaaDoA
namespace Go.Proofs.Ytbjknkgefpeohaa
open Go.RowKit
attribute [local go_sem ↓] Go.wp_at_zero Go.wp_at_succ

set_option maxHeartbeats 1000000 in
theorem load_on (g : Nat) (x : DX) (w : World) (h : Whole w g 59 x.cells) (hrow : Row w 8 x.m.A x.m.ros.length x.m.c (rowOf x.m.ros)) (hok : ∀ r ∈ x.m.ros, r.ok w) (hn : x.m.ros.length ≤ Cap) (h0 : 0 ≤ x.d.i) (h1 : x.d.i ≤ 7)
    (reg : Int) (q0 : 0 ≤ reg) (q1 : reg ≤ 5) (fid : FuncId) (caps : Array Value) (R : Nat → RO → World → Prop) (hcf : ∀ (args : Array Value) (W : World), (callFunc fid args).run Try.prog W = .ok (.enter fid args) W)
    (hdo : ∀ i r b o c W, onE (x.m.ros.map RO.o) (x.r.getD reg.toNat 0) true = .inr i → x.m.ros[i]? = some r → x.d.i < r.o.ptrs.length → r.P = .slice (some ⟨b, o, none⟩) r.o.ptrs.length c → Fr No w W → Calls Try.prog fid (#[.pointer (some ⟨b, o + x.d.i.toNat, none⟩)] ++ caps) W fun e w' => e = .returned (.tuple #[]) ∧ R i r w') :
    ∀ cx cd, w.cell? ⟨cx, 0, none⟩ = some (.pointer (some ⟨g, 0, none⟩)) → w.cell? ⟨cd, 0, none⟩ = some (.func (.func fid) #[] caps) →
      Calls Try.prog 39 #[.pointer (some ⟨g, 0, none⟩), .int .i64 reg, .bool true, .func (.func 40) #[] #[.pointer (some ⟨cx, 0, none⟩), .pointer (some ⟨cd, 0, none⟩)]] w (Fielded x reg true (fun r => r.o.ptrs.length) w R) := by
  have hcfc : ∀ (args : Array Value) (W : World), (callFunc 40 args).run Try.prog W = .ok (.enter 40 args) W := fun args W => by kernel_rfl
  intro cx cd hx hd
  have hcx := World.block_lt_of_cell? w _ hx
  have hcd := World.block_lt_of_cell? w _ hd
  refine (on_calls g x w h hrow hn reg q0 q1 true 40 #[.pointer (some ⟨cx, 0, none⟩), .pointer (some ⟨cd, 0, none⟩)] (fun e w' => ∃ i r, onE (x.m.ros.map RO.o) (x.r.getD reg.toNat 0) true = .inr i ∧ x.m.ros[i]? = some r ∧ Fld x.d.i r.o.ptrs.length w (R i r) e w') hcfc ?_).mono ?_
  · intro i b o V hi hA hV
    obtain ⟨po, hpo, _⟩ := onE_some hi
    obtain ⟨r, hr, rfl⟩ : ∃ r, x.m.ros[i]? = some r ∧ r.o = po := by
      rw [List.getElem?_map] at hpo
      cases hx : x.m.ros[i]? with
      | none => rw [hx] at hpo; cases hpo
      | some r => rw [hx] at hpo; injection hpo with hpo; exact ⟨r, rfl, hpo⟩
    obtain ⟨pA, pc, nA, nc, e1, e2, r1, r2, n1, n2⟩ := (hok r (List.mem_of_getElem? hr)).no hV
    have hcs := obj_cells (hA ▸ hrow.no hV) hr 5 (by decide)
    have hP : V.cell? ⟨b, o + i * 8 + 5, none⟩ = some (.slice pA r.o.ptrs.length pc) := by
      rw [← e1]; exact hcs
    refine (do_2 g x V (hV.whole h (fun x => x)) h0 h1 pA r.o.ptrs.length pc (intVals r.o.ptrs) r1 n1 fid caps (R i r) hcf ?_ cx cd b (o + i * 8) ((hV.cell hcx (fun x => x)).trans hx) ((hV.cell hcd (fun x => x)).trans hd) hP).mono ?_
    · intro b' o' V' hlt hA' hV'
      exact hdo i r b' o' pc V' hi hr hlt (by rw [e1, hA']) (hV.trans hV')
    · rintro e w' ⟨n, rfl, hq⟩
      refine ⟨n, rfl, i, r, hi, hr, n, rfl, ?_⟩
      rcases hq with ⟨p1, p2, p3⟩ | hq
      · exact .inl ⟨p1, p2, hV.trans p3⟩
      · exact .inr hq
  · rintro e w' (⟨c, hc, rfl, hf⟩ | ⟨⟨i, hi⟩, i', r, hi', hr, hq⟩)
    · exact .inl ⟨c, hc, rfl, hf⟩
    · obtain ⟨n, rfl, hn'⟩ := hq
      exact .inr ⟨i', r, hi', hr, n, rfl, hn'⟩

set_option maxRecDepth 4000 in
set_option maxHeartbeats 1000000 in
theorem do_load (g B : Nat) (x : DX) (w : World) (h : St w g B x) (hk : x.d.kind = 9) (h0 : 0 ≤ x.d.a) (h1 : x.d.a ≤ 5) (q0 : 0 ≤ x.d.b) (q1 : x.d.b ≤ 5) (i0 : 0 ≤ x.d.i) (i1 : x.d.i ≤ 7) :
    Calls Try.prog 21 #[.pointer (some ⟨g, 0, none⟩)] w (DoneO g B (fieldP x.m.pure.objs (x.r.getD x.d.b.toNat 0) true x.d.i (fun o => o.ptrs.length) fun _ o => (x.m.pure, x.r.set x.d.a.toNat (o.ptrs.getD x.d.i.toNat 0), o.ptrs.getD x.d.i.toNat 0)) w) := by
  have c0 : w.cell? ⟨g, 0, none⟩ = some (.int .i64 9) := hk ▸ h.whole.cell 0
  have c2 : w.cell? ⟨g, 2, none⟩ = some (.int .i64 x.d.b) := h.whole.cell 2
  have hgl := h.whole.lt
  have hcfc : ∀ (args : Array Value) (W : World), (callFunc 34 args).run Try.prog W = .ok (.enter 34 args) W := fun args W => by kernel_rfl
  generalize hO : (fieldP x.m.pure.objs (x.r.getD x.d.b.toNat 0) true x.d.i (fun o => o.ptrs.length) fun _ o => (x.m.pure, x.r.set x.d.a.toNat (o.ptrs.getD x.d.i.toNat 0), o.ptrs.getD x.d.i.toNat 0)) = O
  have hsub : ∀ W cx cd, Fr No w W → W.cell? ⟨cx, 0, none⟩ = some (.pointer (some ⟨g, 0, none⟩)) → W.cell? ⟨cd, 0, none⟩ = some (.func (.func 34) #[] #[.pointer (some ⟨cx, 0, none⟩)]) → Calls Try.prog 39 #[.pointer (some ⟨g, 0, none⟩), .int .i64 x.d.b, .bool true, .func (.func 40) #[] #[.pointer (some ⟨cx, 0, none⟩), .pointer (some ⟨cd, 0, none⟩)]] W fun e w' => ∃ n, e = .returned (.int .i64 n) ∧ DoneO g B O w e w' := fun W cx cd hW hcx hcd => by
    have hS := h.no hW
    have hcl := World.block_lt_of_cell? W _ hcx
    subst hO
    refine (load_on g x W hS.whole hS.own.ok.row hS.own.ok.objs hS.own.ok.nobjs i0 i1 x.d.b q0 q1 _ _ (GetR g x W) hcfc ?_ cx cd hcx hcd).mono (fun e w' hq => (by have hd := done_get hS hq; obtain ⟨n, hn⟩ := done_ret hd; exact ⟨n, hn, (fr_no hW).trans hd.1, hd.2⟩))
    intro i r b o c V _ hr hi hP hV
    have hSV := hS.no hV
    obtain ⟨v, hv, e1, _⟩ := ptr_at hSV.own hr hP (j := x.d.i.toNat) (by omega)
    refine (do_1 g x V hSV.whole hSV.six h0 h1 cx b (o + x.d.i.toNat) v ((hV.cell hcl (fun x => x)).trans hcx) e1).mono ?_
    rintro e w' ⟨rfl, hw, hf⟩
    exact ⟨rfl, v, hv, hw, (fr_no hV).trans hf⟩
  have Hsub := Lib.hid hsub
  clear hsub h hk hcfc hO
  generalize DoneO g B O w = Post at *
  have hF := ((Fr.refl No w).alloc (.cells #[.pointer (some ⟨g, 0, none⟩)] 57)).alloc (.cells #[.func (.func 34) #[] #[.pointer (some ⟨w.heap.size, 0, none⟩)]] 86)
  have hX : Whole ((w.alloc (.cells #[.pointer (some ⟨g, 0, none⟩)] 57)).alloc (.cells #[.func (.func 34) #[] #[.pointer (some ⟨w.heap.size, 0, none⟩)]] 86)) w.heap.size 57 [.pointer (some ⟨g, 0, none⟩)] := (Whole.new w _ [_]).alloc _
  have hY : Whole ((w.alloc (.cells #[.pointer (some ⟨g, 0, none⟩)] 57)).alloc (.cells #[.func (.func 34) #[] #[.pointer (some ⟨w.heap.size, 0, none⟩)]] 86)) (w.heap.size + 1) 86 [.func (.func 34) #[] #[.pointer (some ⟨w.heap.size, 0, none⟩)]] := Whole.new1 w _ [_] _
  have HF := Lib.hid hF
  have HX := Lib.hid hX
  have HY := Lib.hid hY
  clear hF hX hY
  go_enter Try.func21, Try.ntmps21
  go_wp2_with fail
  go_region_with (go_at_call 39; refine (Hsub.out _ _ _ HF.out.drew (HX.out.drew.cell 0) (HY.out.drew.cell 0)).mono ?_; rintro e w1 ⟨n, rfl, hp⟩)
  all_goals go_wp2
  all_goals go_ret
  all_goals exact hp
end Go.Proofs.Ytbjknkgefpeohaa
