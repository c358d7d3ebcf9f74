/- Contracts of the methods that look at an object and do something to one of its fields. Conditions: registers and fields in their bounds, lists shorter than 2^40. -/
import Derived.Test.YtbjknkgefpeohaaDoing2
namespace Go.Proofs.Ytbjknkgefpeohaa
open Go.RowKit
attribute [local go_sem ↓] Go.wp_at_zero Go.wp_at_succ

theorem onE_some {l : List PObj} {v : Int} {weak : Bool} {i : Nat} (h : onE l v weak = .inr i) : ∃ o, l[i]? = some o ∧ v ≠ 0 ∧ l.findIdx? (fun o => o.serial == v) = some i ∧ o.freed = false ∧ o.weak = weak := by
  unfold onE at h
  split at h
  · cases h
  · rename_i hv
    split at h
    · cases h
    · rename_i j hj
      split at h
      · cases h
      · rename_i o ho
        split at h
        · cases h
        · rename_i hf
          split at h
          · cases h
          · rename_i hw
            injection h with h
            subst h
            exact ⟨o, ho, hv, hj, by simpa using hf, by simpa using hw⟩

/-- What a method that does something to a field of a register's object leaves. -/
def Fielded (x : DX) (reg : Int) (weak : Bool) (len : RO → Nat) (w : World) (R : Nat → RO → World → Prop) (e : Ending) (w' : World) : Prop :=
  (∃ c, onE (x.m.ros.map RO.o) (x.r.getD reg.toNat 0) weak = .inl c ∧ e = .returned (.int .i64 c) ∧ Fr No w w') ∨
  (∃ i r, onE (x.m.ros.map RO.o) (x.r.getD reg.toNat 0) weak = .inr i ∧ x.m.ros[i]? = some r ∧ Fld x.d.i (len r) w (R i r) e w')

set_option maxHeartbeats 1000000 in
theorem ptr_calls (g : Nat) (x : DX) (w : World) (h : Whole w g 59 x.cells) (hrow : Row w 8 x.m.A x.m.ros.length x.m.c (rowOf x.m.ros)) (hok : ∀ r ∈ x.m.ros, r.ok w) (hn : x.m.ros.length ≤ Cap) (h0 : 0 ≤ x.d.i) (h1 : x.d.i ≤ 7)
    (reg : Int) (q0 : 0 ≤ reg) (q1 : reg ≤ 5) (fid : FuncId) (caps : Array Value) (R : Nat → RO → World → Prop) (hcf : ∀ (args : Array Value) (W : World), (callFunc fid args).run Try.prog W = .ok (.enter fid args) W)
    (hdo : ∀ i r b o c W, onE (x.m.ros.map RO.o) (x.r.getD reg.toNat 0) false = .inr i → x.m.ros[i]? = some r → x.d.i < r.o.ptrs.length → r.P = .slice (some ⟨b, o, none⟩) r.o.ptrs.length c → Fr No w W → Calls Try.prog fid (#[.pointer (some ⟨b, o + x.d.i.toNat, none⟩)] ++ caps) W fun e w' => e = .returned (.tuple #[]) ∧ R i r w') :
    Calls Try.prog 38 #[.pointer (some ⟨g, 0, none⟩), .int .i64 reg, .func (.func fid) #[] caps] w (Fielded x reg false (fun r => r.o.ptrs.length) w R) := by
  have hcfc : ∀ (args : Array Value) (W : World), (callFunc 56 args).run Try.prog W = .ok (.enter 56 args) W := fun args W => by kernel_rfl
  have hk : ∀ W cx cd, Fr No w W → W.cell? ⟨cx, 0, none⟩ = some (.pointer (some ⟨g, 0, none⟩)) → W.cell? ⟨cd, 0, none⟩ = some (.func (.func fid) #[] caps) →
      Calls Try.prog 39 #[.pointer (some ⟨g, 0, none⟩), .int .i64 reg, .bool false, .func (.func 56) #[] #[.pointer (some ⟨cx, 0, none⟩), .pointer (some ⟨cd, 0, none⟩)]] W
        fun e w' => ∃ n, e = .returned (.int .i64 n) ∧ Fielded x reg false (fun r => r.o.ptrs.length) w R e w' := by
    intro W cx cd hW hx hd
    have hcx := World.block_lt_of_cell? W _ hx
    have hcd := World.block_lt_of_cell? W _ hd
    refine (on_calls g x W (hW.whole h (fun x => x)) (hrow.no hW) hn reg q0 q1 false 56 #[.pointer (some ⟨cx, 0, none⟩), .pointer (some ⟨cd, 0, none⟩)] (fun e w' => ∃ i r, onE (x.m.ros.map RO.o) (x.r.getD reg.toNat 0) false = .inr i ∧ x.m.ros[i]? = some r ∧ Fld x.d.i r.o.ptrs.length w (R i r) e w') hcfc ?_).mono ?_
    · intro i b o V hi hA hV
      obtain ⟨po, hpo, _⟩ := onE_some hi
      obtain ⟨r, hr, rfl⟩ : ∃ r, x.m.ros[i]? = some r ∧ r.o = po := by
        rw [List.getElem?_map] at hpo
        cases hx : x.m.ros[i]? with
        | none => rw [hx] at hpo; cases hpo
        | some r => rw [hx] at hpo; injection hpo with hpo; exact ⟨r, rfl, hpo⟩
      have hwV := hW.trans hV
      obtain ⟨pA, pc, nA, nc, e1, e2, r1, r2, n1, n2⟩ := (hok r (List.mem_of_getElem? hr)).no hwV
      have hcs := obj_cells (hA ▸ hrow.no hwV) hr 5 (by decide)
      have hP : V.cell? ⟨b, o + i * 8 + 5, none⟩ = some (.slice pA r.o.ptrs.length pc) := by
        rw [← e1]; exact hcs
      refine (ptr_1 g x V (hwV.whole h (fun x => x)) h0 h1 pA r.o.ptrs.length pc (intVals r.o.ptrs) r1 n1 fid caps (R i r) hcf ?_ cx cd b (o + i * 8) ((hV.cell hcx (fun x => x)).trans hx) ((hV.cell hcd (fun x => x)).trans hd) hP).mono ?_
      · intro b' o' V' hlt hA' hV'
        exact hdo i r b' o' pc V' hi hr hlt (by rw [e1, hA']) (hwV.trans hV')
      · rintro e w' ⟨n, rfl, hq⟩
        refine ⟨n, rfl, i, r, hi, hr, n, rfl, ?_⟩
        rcases hq with ⟨p1, p2, p3⟩ | hq
        · exact .inl ⟨p1, p2, hwV.trans p3⟩
        · exact .inr hq
    · rintro e w' (⟨c, hc, rfl, hf⟩ | ⟨⟨i, hi⟩, i', r, hi', hr, hq⟩)
      · exact ⟨c, rfl, .inl ⟨c, hc, rfl, hW.trans hf⟩⟩
      · obtain ⟨n, rfl, hn'⟩ := hq
        exact ⟨n, rfl, .inr ⟨i', r, hi', hr, n, rfl, hn'⟩⟩
  have Hk := Lib.hid hk
  have ca : w.cell? ⟨g, 1, none⟩ = some (.int .i64 x.d.a) := h.cell 1
  have hgl := h.lt
  clear hk hcf hdo hcfc hok hrow
  generalize Fielded x reg false (fun r => r.o.ptrs.length) w R = Post at *
  have hX : Whole ((w.alloc (.cells #[.pointer (some ⟨g, 0, none⟩)] 57)).alloc (.cells #[.func (.func fid) #[] caps] 86)) w.heap.size 57 [.pointer (some ⟨g, 0, none⟩)] := (Whole.new w _ [_]).alloc _
  have hD : Whole ((w.alloc (.cells #[.pointer (some ⟨g, 0, none⟩)] 57)).alloc (.cells #[.func (.func fid) #[] caps] 86)) (w.heap.size + 1) 86 [.func (.func fid) #[] caps] := Whole.new1 w _ [_] _
  have hF := ((Fr.refl No w).alloc (.cells #[.pointer (some ⟨g, 0, none⟩)] 57)).alloc (.cells #[.func (.func fid) #[] caps] 86)
  go_enter Try.func38, Try.ntmps38
  go_wp2_with fail
  refine (Hk.out _ _ _ hF (hX.cell 0) (hD.cell 0)).mono ?_
  rintro e w1 ⟨n, rfl, hp⟩
  go_wp2
  exact hp

set_option maxHeartbeats 1000000 in
theorem num_calls (g : Nat) (x : DX) (w : World) (h : Whole w g 59 x.cells) (hrow : Row w 8 x.m.A x.m.ros.length x.m.c (rowOf x.m.ros)) (hok : ∀ r ∈ x.m.ros, r.ok w) (hn : x.m.ros.length ≤ Cap) (h0 : 0 ≤ x.d.i) (h1 : x.d.i ≤ 7)
    (q0 : 0 ≤ x.d.a) (q1 : x.d.a ≤ 5) (fid : FuncId) (caps : Array Value) (R : Nat → RO → World → Prop) (hcf : ∀ (args : Array Value) (W : World), (callFunc fid args).run Try.prog W = .ok (.enter fid args) W)
    (hdo : ∀ i r b o c W, onE (x.m.ros.map RO.o) (x.r.getD x.d.a.toNat 0) false = .inr i → x.m.ros[i]? = some r → x.d.i < r.o.nums.length → r.N = .slice (some ⟨b, o, none⟩) r.o.nums.length c → Fr No w W → Calls Try.prog fid (#[.pointer (some ⟨b, o + x.d.i.toNat, none⟩)] ++ caps) W fun e w' => e = .returned (.tuple #[]) ∧ R i r w') :
    Calls Try.prog 44 #[.pointer (some ⟨g, 0, none⟩), .func (.func fid) #[] caps] w (Fielded x x.d.a false (fun r => r.o.nums.length) w R) := by
  have hcfc : ∀ (args : Array Value) (W : World), (callFunc 57 args).run Try.prog W = .ok (.enter 57 args) W := fun args W => by kernel_rfl
  have hk : ∀ W cx cd, Fr No w W → W.cell? ⟨cx, 0, none⟩ = some (.pointer (some ⟨g, 0, none⟩)) → W.cell? ⟨cd, 0, none⟩ = some (.func (.func fid) #[] caps) →
      Calls Try.prog 39 #[.pointer (some ⟨g, 0, none⟩), .int .i64 x.d.a, .bool false, .func (.func 57) #[] #[.pointer (some ⟨cx, 0, none⟩), .pointer (some ⟨cd, 0, none⟩)]] W
        fun e w' => ∃ n, e = .returned (.int .i64 n) ∧ Fielded x x.d.a false (fun r => r.o.nums.length) w R e w' := by
    intro W cx cd hW hx hd
    have hcx := World.block_lt_of_cell? W _ hx
    have hcd := World.block_lt_of_cell? W _ hd
    refine (on_calls g x W (hW.whole h (fun x => x)) (hrow.no hW) hn x.d.a q0 q1 false 57 #[.pointer (some ⟨cx, 0, none⟩), .pointer (some ⟨cd, 0, none⟩)] (fun e w' => ∃ i r, onE (x.m.ros.map RO.o) (x.r.getD x.d.a.toNat 0) false = .inr i ∧ x.m.ros[i]? = some r ∧ Fld x.d.i r.o.nums.length w (R i r) e w') hcfc ?_).mono ?_
    · intro i b o V hi hA hV
      obtain ⟨po, hpo, _⟩ := onE_some hi
      obtain ⟨r, hr, rfl⟩ : ∃ r, x.m.ros[i]? = some r ∧ r.o = po := by
        rw [List.getElem?_map] at hpo
        cases hx : x.m.ros[i]? with
        | none => rw [hx] at hpo; cases hpo
        | some r => rw [hx] at hpo; injection hpo with hpo; exact ⟨r, rfl, hpo⟩
      have hwV := hW.trans hV
      obtain ⟨pA, pc, nA, nc, e1, e2, r1, r2, n1, n2⟩ := (hok r (List.mem_of_getElem? hr)).no hwV
      have hcs := obj_cells (hA ▸ hrow.no hwV) hr 6 (by decide)
      have hP : V.cell? ⟨b, o + i * 8 + 6, none⟩ = some (.slice nA r.o.nums.length nc) := by
        rw [← e2]; exact hcs
      refine (num_1 g x V (hwV.whole h (fun x => x)) h0 h1 nA r.o.nums.length nc (intVals r.o.nums) r2 n2 fid caps (R i r) hcf ?_ cx cd b (o + i * 8) ((hV.cell hcx (fun x => x)).trans hx) ((hV.cell hcd (fun x => x)).trans hd) hP).mono ?_
      · intro b' o' V' hlt hA' hV'
        exact hdo i r b' o' nc V' hi hr hlt (by rw [e2, hA']) (hwV.trans hV')
      · rintro e w' ⟨n, rfl, hq⟩
        refine ⟨n, rfl, i, r, hi, hr, n, rfl, ?_⟩
        rcases hq with ⟨p1, p2, p3⟩ | hq
        · exact .inl ⟨p1, p2, hwV.trans p3⟩
        · exact .inr hq
    · rintro e w' (⟨c, hc, rfl, hf⟩ | ⟨⟨i, hi⟩, i', r, hi', hr, hq⟩)
      · exact ⟨c, rfl, .inl ⟨c, hc, rfl, hW.trans hf⟩⟩
      · obtain ⟨n, rfl, hn'⟩ := hq
        exact ⟨n, rfl, .inr ⟨i', r, hi', hr, n, rfl, hn'⟩⟩
  have Hk := Lib.hid hk
  have ca : w.cell? ⟨g, 1, none⟩ = some (.int .i64 x.d.a) := h.cell 1
  have hgl := h.lt
  clear hk hcf hdo hcfc hok hrow
  generalize Fielded x x.d.a false (fun r => r.o.nums.length) w R = Post at *
  have hX : Whole ((w.alloc (.cells #[.pointer (some ⟨g, 0, none⟩)] 57)).alloc (.cells #[.func (.func fid) #[] caps] 86)) w.heap.size 57 [.pointer (some ⟨g, 0, none⟩)] := (Whole.new w _ [_]).alloc _
  have hD : Whole ((w.alloc (.cells #[.pointer (some ⟨g, 0, none⟩)] 57)).alloc (.cells #[.func (.func fid) #[] caps] 86)) (w.heap.size + 1) 86 [.func (.func fid) #[] caps] := Whole.new1 w _ [_] _
  have hF := ((Fr.refl No w).alloc (.cells #[.pointer (some ⟨g, 0, none⟩)] 57)).alloc (.cells #[.func (.func fid) #[] caps] 86)
  go_enter Try.func44, Try.ntmps44
  go_wp2_with fail
  go_region_with (go_at_call 39; refine (Hk.out _ _ _ hF.drew (hX.drew.cell 0) (hD.drew.cell 0)).mono ?_; rintro e w1 ⟨n, rfl, hp⟩)
  all_goals go_wp2
  all_goals go_ret
  all_goals exact hp
end Go.Proofs.Ytbjknkgefpeohaa
