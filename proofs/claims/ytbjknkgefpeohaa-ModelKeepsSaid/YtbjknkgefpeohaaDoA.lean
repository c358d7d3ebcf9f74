/- Contract of do: the deeds that one method does. Conditions: right deeds, lists shorter than 2^40. -/
import Derived.Test.YtbjknkgefpeohaaDone2
import Derived.Laws.EntriesVeiled
namespace Go.Proofs.Ytbjknkgefpeohaa
open Go.RowKit
attribute [local go_sem ↓] Go.wp_at_zero Go.wp_at_succ

theorem own_frozen {w : World} {base : Nat} {e : TypeId} {size n n' c b o : Nat} {xs : List Value} (h : w.ownsRow base e size (.slice (some ⟨b, o, none⟩) n c) n' xs) (j : Nat) : w.frozen? ⟨b, j, none⟩ = false := by
  rcases h.2 with ⟨hv, _⟩ | ⟨g, cap, cur, hv, _, hg, _⟩
  · cases hv
  · injection hv with hv _ _
    injection hv with hv
    injection hv with hv _ _
    subst hv
    have hw : Whole w b e cur.toList := by unfold Whole; simpa using hg
    exact hw.frozen j
theorem ptr_at {w : World} {B : Nat} {m : RM} (h : m.Own w B) {i : Nat} {r : RO} (hr : m.ros[i]? = some r) {b o c j : Nat} (hP : r.P = .slice (some ⟨b, o, none⟩) r.o.ptrs.length c) (hj : j < r.o.ptrs.length) :
    ∃ v, r.o.ptrs[j]? = some v ∧ w.cell? ⟨b, o + j, none⟩ = some (.int .i64 v) ∧ w.frozen? ⟨b, o + j, none⟩ = false := by
  have hw := (h.own.objs.2.1 r (List.mem_of_getElem? hr)).1
  rw [hP] at hw
  exact ⟨_, List.getElem?_eq_getElem hj, (Row.of_own hw).int_at (List.getElem?_eq_getElem hj), own_frozen hw _⟩
theorem num_at {w : World} {B : Nat} {m : RM} (h : m.Own w B) {i : Nat} {r : RO} (hr : m.ros[i]? = some r) {b o c j : Nat} (hP : r.N = .slice (some ⟨b, o, none⟩) r.o.nums.length c) (hj : j < r.o.nums.length) :
    ∃ v, r.o.nums[j]? = some v ∧ w.cell? ⟨b, o + j, none⟩ = some (.int .i64 v) ∧ w.frozen? ⟨b, o + j, none⟩ = false := by
  have hw := (h.own.objs.2.1 r (List.mem_of_getElem? hr)).2
  rw [hP] at hw
  exact ⟨_, List.getElem?_eq_getElem hj, (Row.of_own hw).int_at (List.getElem?_eq_getElem hj), own_frozen hw _⟩

set_option maxHeartbeats 1000000 in
theorem do_free (g B : Nat) (x : DX) (w : World) (h : St w g B x) (hk : x.d.kind = 8) (h0 : 0 ≤ x.d.a) (h1 : x.d.a ≤ 5) :
    Calls Try.prog 21 #[.pointer (some ⟨g, 0, none⟩)] w (DoneO g B (freeP x.m.pure x.r (x.r.getD x.d.a.toNat 0)) w) := by
  have c0 : w.cell? ⟨g, 0, none⟩ = some (.int .i64 8) := hk ▸ h.whole.cell 0
  have hgl := h.whole.lt
  generalize hO : (freeP x.m.pure x.r (x.r.getD x.d.a.toNat 0)) = O
  have hsub : ∀ W, Fr No w W → Calls Try.prog 47 #[.pointer (some ⟨g, 0, none⟩)] W fun e w' => ∃ n, e = .returned (.int .i64 n) ∧ DoneO g B O w e w' := fun W hW => by
    have hS := h.no hW
    subst hO
    refine (free_calls g x W hS.whole hS.own.ok.row ?_ hS.own.ok.nobjs h0 h1).mono (fun e w' hq => (by have hd := done_free hS hq; obtain ⟨n, hn⟩ := done_ret hd; exact ⟨n, hn, (fr_no hW).trans hd.1, hd.2⟩))
    intro b o j hA
    exact own_frozen (hA ▸ hS.own.own.objs.1) j
  have Hsub := Lib.hid hsub
  clear hsub h hk hO
  generalize DoneO g B O w = Post at *
  go_enter Try.func21, Try.ntmps21
  go_wp2_with fail
  refine (Hsub.out _ (((Fr.refl _ _).alloc _).alloc _)).mono ?_; rintro e w1 ⟨n, rfl, hq⟩; go_wp2; exact hq

set_option maxHeartbeats 1000000 in
theorem do_take (g B : Nat) (x : DX) (w : World) (h : St w g B x) (hk : x.d.kind = 10) (h0 : 0 ≤ x.d.a) (h1 : x.d.a ≤ 5) :
    Calls Try.prog 21 #[.pointer (some ⟨g, 0, none⟩)] w (DoneO g B (.inr (takeP x.m.pure x.r x.d.a x.s)) w) := by
  have c0 : w.cell? ⟨g, 0, none⟩ = some (.int .i64 10) := hk ▸ h.whole.cell 0
  have hgl := h.whole.lt
  generalize hO : (.inr (takeP x.m.pure x.r x.d.a x.s) : Out) = O
  have hsub : ∀ W, Fr No w W → Calls Try.prog 42 #[.pointer (some ⟨g, 0, none⟩)] W fun e w' => ∃ n, e = .returned (.int .i64 n) ∧ DoneO g B O w e w' := fun W hW => by
    have hS := h.no hW
    subst hO
    refine (take_calls g x W hS.whole hS.six hS.own.ok.queue hS.own.nq ?_ h0 h1).mono (fun e w' hq => (by have hd := done_take hS hq; obtain ⟨n, hn⟩ := done_ret hd; exact ⟨n, hn, (fr_no hW).trans hd.1, hd.2⟩))
    intro b o hQ e
    subst e
    exact hS.qapart (by rw [hQ]; rfl)
  have Hsub := Lib.hid hsub
  clear hsub h hk hO
  generalize DoneO g B O w = Post at *
  go_enter Try.func21, Try.ntmps21
  go_wp2_with fail
  refine (Hsub.out _ (((Fr.refl _ _).alloc _).alloc _)).mono ?_; rintro e w1 ⟨n, rfl, hq⟩; go_wp2; exact hq

set_option maxHeartbeats 1000000 in
theorem do_weak (g B : Nat) (x : DX) (w : World) (h : St w g B x) (hk : x.d.kind = 3) (h0 : 0 ≤ x.d.a) (h1 : x.d.a ≤ 5) (q0 : 0 ≤ x.d.b) (q1 : x.d.b ≤ 5) :
    Calls Try.prog 21 #[.pointer (some ⟨g, 0, none⟩)] w (DoneO g B (weakP x.m.pure x.r x.d.a x.f (x.r.getD x.d.b.toNat 0)) w) := by
  have c0 : w.cell? ⟨g, 0, none⟩ = some (.int .i64 3) := hk ▸ h.whole.cell 0
  have hgl := h.whole.lt
  generalize hO : (weakP x.m.pure x.r x.d.a x.f (x.r.getD x.d.b.toNat 0)) = O
  have hsub : ∀ W, Fr No w W → Calls Try.prog 37 #[.pointer (some ⟨g, 0, none⟩)] W fun e w' => ∃ n, e = .returned (.int .i64 n) ∧ DoneO g B O w e w' := fun W hW => by
    have hS := h.no hW
    subst hO
    exact (weak_calls g B x W hS.whole hS.six hS.hB hS.own.own.objs.1 hS.hng hS.own.nobjs h0 h1 q0 q1).mono (fun e w' hq => (by have hd := done_weak hS hq; obtain ⟨n, hn⟩ := done_ret hd; exact ⟨n, hn, (fr_no hW).trans hd.1, hd.2⟩))
  have Hsub := Lib.hid hsub
  clear hsub h hk hO
  generalize DoneO g B O w = Post at *
  go_enter Try.func21, Try.ntmps21
  go_wp2_with fail
  refine (Hsub.out _ (((Fr.refl _ _).alloc _).alloc _)).mono ?_; rintro e w1 ⟨n, rfl, hq⟩; go_wp2; exact hq

set_option maxRecDepth 4000 in
set_option maxHeartbeats 1000000 in
theorem do_get (g B : Nat) (x : DX) (w : World) (h : St w g B x) (hk : x.d.kind = 4) (h0 : 0 ≤ x.d.a) (h1 : x.d.a ≤ 5) (q0 : 0 ≤ x.d.b) (q1 : x.d.b ≤ 5) (i0 : 0 ≤ x.d.i) (i1 : x.d.i ≤ 7) :
    Calls Try.prog 21 #[.pointer (some ⟨g, 0, none⟩)] w (DoneO g B (fieldP x.m.pure.objs (x.r.getD x.d.b.toNat 0) false x.d.i (fun o => o.ptrs.length) fun _ o => (x.m.pure, x.r.set x.d.a.toNat (o.ptrs.getD x.d.i.toNat 0), o.ptrs.getD x.d.i.toNat 0)) w) := by
  have c0 : w.cell? ⟨g, 0, none⟩ = some (.int .i64 4) := hk ▸ h.whole.cell 0
  have c2 : w.cell? ⟨g, 2, none⟩ = some (.int .i64 x.d.b) := h.whole.cell 2
  have hgl := h.whole.lt
  have hcfc : ∀ (args : Array Value) (W : World), (callFunc 34 args).run Try.prog W = .ok (.enter 34 args) W := fun args W => by kernel_rfl
  generalize hO : (fieldP x.m.pure.objs (x.r.getD x.d.b.toNat 0) false x.d.i (fun o => o.ptrs.length) fun _ o => (x.m.pure, x.r.set x.d.a.toNat (o.ptrs.getD x.d.i.toNat 0), o.ptrs.getD x.d.i.toNat 0)) = O
  have hsub : ∀ W cx, Fr No w W → W.cell? ⟨cx, 0, none⟩ = some (.pointer (some ⟨g, 0, none⟩)) → Calls Try.prog 38 #[.pointer (some ⟨g, 0, none⟩), .int .i64 x.d.b, .func (.func 34) #[] #[.pointer (some ⟨cx, 0, none⟩)]] W fun e w' => ∃ n, e = .returned (.int .i64 n) ∧ DoneO g B O w e w' := fun W cx hW hcx => by
    have hS := h.no hW
    have hcl := World.block_lt_of_cell? W _ hcx
    subst hO
    refine (ptr_calls g x W hS.whole hS.own.ok.row hS.own.ok.objs hS.own.ok.nobjs i0 i1 x.d.b q0 q1 _ _ (GetR g x W) hcfc ?_).mono (fun e w' hq => (by have hd := done_get hS hq; obtain ⟨n, hn⟩ := done_ret hd; exact ⟨n, hn, (fr_no hW).trans hd.1, hd.2⟩))
    intro i r b o c V _ hr hi hP hV
    have hSV := hS.no hV
    obtain ⟨v, hv, e1, _⟩ := ptr_at hSV.own hr hP (j := x.d.i.toNat) (by omega)
    refine (do_1 g x V hSV.whole hSV.six h0 h1 cx b (o + x.d.i.toNat) v ((hV.cell hcl (fun x => x)).trans hcx) e1).mono ?_
    rintro e w' ⟨rfl, hw, hf⟩
    exact ⟨rfl, v, hv, hw, (fr_no hV).trans hf⟩
  have Hsub := Lib.hid hsub
  clear hsub h hk hcfc hO
  generalize DoneO g B O w = Post at *
  have hF := ((Fr.refl No w).alloc (.cells #[.pointer (some ⟨g, 0, none⟩)] 57)).alloc (.cells #[.func (.func 34) #[] #[.pointer (some ⟨w.heap.size, 0, none⟩)]] 86)
  have hX : Whole ((w.alloc (.cells #[.pointer (some ⟨g, 0, none⟩)] 57)).alloc (.cells #[.func (.func 34) #[] #[.pointer (some ⟨w.heap.size, 0, none⟩)]] 86)) w.heap.size 57 [.pointer (some ⟨g, 0, none⟩)] := (Whole.new w _ [_]).alloc _
  have HF := Lib.hid hF
  have HX := Lib.hid hX
  clear hF hX
  go_enter Try.func21, Try.ntmps21
  go_wp2_with fail
  go_region_with (go_at_call 38; refine (Hsub.out _ _ HF.out.drew (HX.out.drew.cell 0)).mono ?_; rintro e w1 ⟨n, rfl, hp⟩)
  all_goals go_wp2
  all_goals go_ret
  all_goals exact hp
end Go.Proofs.Ytbjknkgefpeohaa
