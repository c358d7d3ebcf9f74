/- Contracts of the search for an object by its serial. Conditions: the list is shorter than 2^40. -/
import Derived.Test.YtbjknkgefpeohaaLeaf
import Derived.Test.YtbjknkgefpeohaaObj
namespace Go.Proofs.Ytbjknkgefpeohaa
open Go.RowKit

theorem at_1 (s p d : Int) (wk fi fr : Bool) (P N : Value) (bs : Nat) (t : Int) (w : World) (hc : w.cell? ⟨bs, 0, none⟩ = some (.int .i64 t)) :
    Calls Try.prog 49 #[.agg #[.int .i64 s, .int .i64 p, .int .i64 d, .bool wk, .bool fi, P, N, .bool fr], .pointer (some ⟨bs, 0, none⟩)] w
      fun e w' => e = .returned (.bool (s == t)) ∧ Fr No w w' := by
  have hlt := World.block_lt_of_cell? w _ hc
  have hc' : (w.alloc (.cells #[.int .i64 s, .int .i64 p, .int .i64 d, .bool wk, .bool fi, P, N, .bool fr] 41)).cell? ⟨bs, 0, none⟩ = some (.int .i64 t) := by
    rw [World.cell?_alloc_lt _ _ _ hlt]; exact hc
  go_enter Try.func49, Try.ntmps49
  go_wp2
  go_ret
  exact ⟨rfl, (Fr.refl _ _).alloc _⟩

theorem idxZ_not (l : List Int) (s : Int) (h : ∀ x ∈ l, x ≠ s) : idxZ l s = -1 := by
  have : l.findIdx? (· == s) = none := by
    rw [List.findIdx?_eq_none_iff]; intro x hx; simpa using h x hx
  simp [idxZ, this]
theorem idxZ_at (l : List Int) (s : Int) (i : Nat) (hi : l[i]? = some s) (h : ∀ j x, j < i → l[j]? = some x → x ≠ s) : idxZ l s = i := by
  have hl : i < l.length := (List.getElem?_eq_some_iff.1 hi).1
  have he : l[i] = s := (List.getElem?_eq_some_iff.1 hi).2
  have : l.findIdx? (· == s) = some i := by
    rw [List.findIdx?_eq_some_iff_getElem]
    exact ⟨hl, by simpa using he, fun j hj => by simpa using h j _ hj (List.getElem?_eq_getElem (by omega))⟩
  simp [idxZ, this]

set_option maxHeartbeats 400000 in
theorem index_func (ros : List RO) (A : Option Addr) (c : Nat) (bs : Nat) (t : Int) (w : World) (hl : ros.length ≤ Cap)
    (h : Row w 8 A ros.length c (rowOf ros)) (hc : w.cell? ⟨bs, 0, none⟩ = some (.int .i64 t)) :
    Calls Try.prog 48 #[.slice A ros.length c, .func (.func 49) #[] #[.pointer (some ⟨bs, 0, none⟩)]] w
      fun e w' => e = .returned (.int .i64 (idxZ (ros.map (·.o.serial)) t)) ∧ Fr No w w' := by
  have hlt := World.block_lt_of_cell? w _ hc
  have hl' := cap_lt hl
  have hlen : ros.length ≤ 9223372036854775807 := by omega
  clear hl hl'
  go_enter Try.func48, Try.ntmps48
  go_wp2
  go_loopw [5, 8] (fun _ i wr => ∃ k : Nat, k ≤ ros.length ∧ i = .int .i64 k ∧ Fr No w wr ∧ ∀ j x, j < k → (ros.map (·.o.serial))[j]? = some x → x ≠ t) (fun _ i _ => ros.length - (intOf i).toNat)
  case atStart => exact ⟨0, Nat.zero_le _, rfl, Fr.refl _ _, fun j x hj => absurd hj (by omega)⟩
  case round =>
    obtain ⟨k, hk, rfl, hfr, hno⟩ := hrel
    by_cases hlt2 : k < ros.length
    · obtain ⟨r, hr⟩ : ∃ r, ros[k]? = some r := ⟨_, List.getElem?_eq_getElem hlt2⟩
      have h' := h.no hfr
      obtain ⟨b, o, rfl, hb, -⟩ := h.2.2 (by omega)
      have hcs := obj_cells h' hr
      have hc' : wr.cell? ⟨bs, 0, none⟩ = some (.int .i64 t) := (hfr.cell hlt (fun x => x)).trans hc
      have c0 : wr.cell? ⟨b, o + k * 8, none⟩ = some (.int .i64 r.o.serial) := hcs 0 (by decide)
      have c1 : wr.cell? ⟨b, o + k * 8 + 1, none⟩ = some (.int .i64 r.o.np) := hcs 1 (by decide)
      have c2 : wr.cell? ⟨b, o + k * 8 + 2, none⟩ = some (.int .i64 r.o.nd) := hcs 2 (by decide)
      have c3 : wr.cell? ⟨b, o + k * 8 + 3, none⟩ = some (.bool r.o.weak) := hcs 3 (by decide)
      have c4 : wr.cell? ⟨b, o + k * 8 + 4, none⟩ = some (.bool r.o.fin) := hcs 4 (by decide)
      have c5 : wr.cell? ⟨b, o + k * 8 + 5, none⟩ = some r.P := hcs 5 (by decide)
      have c6 : wr.cell? ⟨b, o + k * 8 + 6, none⟩ = some r.N := hcs 6 (by decide)
      have c7 : wr.cell? ⟨b, o + k * 8 + 7, none⟩ = some (.bool r.o.freed) := hcs 7 (by decide)
      clear hcs h h' hc
      have Hno := Lib.hid hno
      clear hno
      have hser : (ros.map (·.o.serial))[k]? = some r.o.serial := by simp [hr]
      have Hs := Lib.hid hser
      clear hser hr
      by_cases heq : r.o.serial = t
      · have hb1 : (r.o.serial == t) = true := by simp [heq]
        have He := Lib.hid heq
        clear heq
        go_wp2_with (go_at_call 49; refine (at_1 _ _ _ _ _ _ _ _ bs t _ hc').mono ?_; rintro e w1 ⟨rfl, hf1⟩)
        go_ret
        exact ⟨ret_int (idxZ_at _ t k (by rw [Hs.out, He.out]) Hno.out).symm, hfr.trans hf1⟩
      · have hb1 : (r.o.serial == t) = false := by simp [heq]
        have He := Lib.hid heq
        clear heq
        go_wp2_with (go_at_call 49; refine (at_1 _ _ _ _ _ _ _ _ bs t _ hc').mono ?_; rintro e w1 ⟨rfl, hf1⟩)
        go_roundw
        case rel => exact ⟨k + 1, by omega, by go_num, hfr.trans hf1, fun j x hj hx => by
            rcases Nat.lt_succ_iff_lt_or_eq.1 hj with hj | hj
            · exact Hno.out j x hj hx
            · subst hj; rw [Hs.out] at hx; injection hx with hx; rw [← hx]; exact He.out⟩
        case measure => simp [intOf]; omega
    · have Hno := Lib.hid hno
      clear hno
      go_wp2
      go_ret
      refine ⟨ret_int (idxZ_not _ t ?_).symm, hfr⟩
      intro x hx
      obtain ⟨j, hj, he⟩ := List.getElem_of_mem hx
      exact Hno.out j x (by simp at hj; omega) (by rw [List.getElem?_eq_getElem hj, he])

theorem idxZ_cases (l : List Int) (s : Int) : (idxZ l s = -1 ∧ ∀ x ∈ l, x ≠ s) ∨ ∃ i : Nat, i < l.length ∧ idxZ l s = i ∧ l[i]? = some s ∧ ∀ j x, j < i → l[j]? = some x → x ≠ s := by
  cases h : l.findIdx? (· == s) with
  | none =>
    rw [List.findIdx?_eq_none_iff] at h
    exact .inl ⟨by simp [idxZ, List.findIdx?_eq_none_iff.2 h], fun x hx => by simpa using h x hx⟩
  | some i =>
    have h' := h
    rw [List.findIdx?_eq_some_iff_getElem] at h'
    obtain ⟨hi, h1, h2⟩ := h'
    refine .inr ⟨i, hi, by simp [idxZ, h], by rw [List.getElem?_eq_getElem hi]; simpa using h1, fun j x hj hx => ?_⟩
    have := h2 j hj
    rw [List.getElem?_eq_getElem (by omega)] at hx
    injection hx with hx
    rw [← hx]; simpa using this

/-- at: the place of an object in the list that came in; nil, if there is none. -/
theorem at_calls (ros : List RO) (A : Option Addr) (c : Nat) (qA : Option Addr) (qn qc : Nat) (t : Int) (w : World) (hl : ros.length ≤ Cap) (h : Row w 8 A ros.length c (rowOf ros)) :
    Calls Try.prog 26 #[.agg #[.slice A ros.length c, .slice qA qn qc], .int .i64 t] w
      fun e w' => (∃ v, e = .returned v ∧ ((idxZ (ros.map (·.o.serial)) t = -1 ∧ v = .pointer none) ∨
        (∃ (i : Nat) (b o : Nat), idxZ (ros.map (·.o.serial)) t = i ∧ i < ros.length ∧ A = some ⟨b, o, none⟩ ∧ v = .pointer (some ⟨b, o + i * 8, none⟩)))) ∧ Fr No w w' := by
  have hl' := cap_lt hl
  have hlen : ros.length ≤ 9223372036854775807 := by omega
  have h' : Row ((w.alloc (.cells #[.slice A ros.length c, .slice qA qn qc] 29)).alloc (.cells #[.int .i64 t] 3)) 8 A ros.length c (rowOf ros) :=
    h.no (((Fr.refl _ _).alloc _).alloc _)
  have hcell : ((w.alloc (.cells #[.slice A ros.length c, .slice qA qn qc] 29)).alloc (.cells #[.int .i64 t] 3)).cell? ⟨w.heap.size + 1, 0, none⟩ = some (.int .i64 t) := by
    simp
  have hI := index_func ros A c (w.heap.size + 1) t _ hl h' hcell
  have hf0 := ((Fr.refl No w).alloc (.cells #[.slice A ros.length c, .slice qA qn qc] 29)).alloc (.cells #[.int .i64 t] 3)
  have hcap := h.2.1
  clear hl hl' hcell h'
  rcases idxZ_cases (ros.map (·.o.serial)) t with ⟨hz, -⟩ | ⟨i, hi, hz, -⟩
  · rw [hz] at hI
    have HI := Lib.hid hI
    have Hz := Lib.hid hz
    clear hI hz
    go_enter Try.func26, Try.ntmps26
    go_wp2_with (go_at_call 48; refine (HI.out).mono ?_; rintro e w1 ⟨rfl, hf1⟩; obtain ⟨hc1, hc2, hc3⟩ := hf1.cells)
    go_ret
    exact ⟨⟨_, rfl, .inl ⟨Hz.out, rfl⟩⟩, hf0.trans hf1⟩
  · rw [hz] at hI
    obtain ⟨b, o, rfl, hb, -⟩ := h.2.2 (by simp at hi; omega)
    have hi' : i < ros.length := by simpa using hi
    have HI := Lib.hid hI
    have Hz := Lib.hid hz
    clear hI hz hi h hb
    go_enter Try.func26, Try.ntmps26
    go_wp2_with (go_at_call 48; refine (HI.out).mono ?_; rintro e w1 ⟨rfl, hf1⟩; obtain ⟨hc1, hc2, hc3⟩ := hf1.cells)
    go_ret
    exact ⟨⟨_, rfl, .inr ⟨i, b, o, Hz.out, hi', rfl, rfl⟩⟩, hf0.trans hf1⟩
theorem at_any (ros : List RO) (A : Option Addr) (c : Nat) (qA : Option Addr) (qn qc : Nat) (t : Int) (w : World) (hl : ros.length ≤ Cap) (h : Row w 8 A ros.length c (rowOf ros)) :
    Calls Try.prog 26 #[.agg #[.slice A ros.length c, .slice qA qn qc], .int .i64 t] w fun e w' => ∃ q, e = .returned (.pointer q) ∧ Fr No w w' := by
  refine (at_calls ros A c qA qn qc t w hl h).mono ?_
  rintro e w' ⟨⟨v, rfl, ⟨_, rfl⟩ | ⟨i, b, o, _, _, _, rfl⟩⟩, hf⟩
  · exact ⟨none, rfl, hf⟩
  · exact ⟨_, rfl, hf⟩
theorem at_nil (ros : List RO) (A : Option Addr) (c : Nat) (qA : Option Addr) (qn qc : Nat) (t : Int) (w : World) (hl : ros.length ≤ Cap) (h : Row w 8 A ros.length c (rowOf ros)) (hi : idxZ (ros.map (·.o.serial)) t = -1) :
    Calls Try.prog 26 #[.agg #[.slice A ros.length c, .slice qA qn qc], .int .i64 t] w fun e w' => e = .returned (.pointer none) ∧ Fr No w w' := by
  refine (at_calls ros A c qA qn qc t w hl h).mono ?_
  rintro e w' ⟨⟨v, rfl, ⟨_, rfl⟩ | ⟨i, b, o, h1, _, _, rfl⟩⟩, hf⟩
  · exact ⟨rfl, hf⟩
  · rw [hi] at h1; omega
theorem at_ptr (ros : List RO) (b o : Nat) (c : Nat) (qA : Option Addr) (qn qc : Nat) (t : Int) (i : Nat) (w : World) (hl : ros.length ≤ Cap) (h : Row w 8 (some ⟨b, o, none⟩) ros.length c (rowOf ros)) (hi : idxZ (ros.map (·.o.serial)) t = i) :
    Calls Try.prog 26 #[.agg #[.slice (some ⟨b, o, none⟩) ros.length c, .slice qA qn qc], .int .i64 t] w fun e w' => e = .returned (.pointer (some ⟨b, o + i * 8, none⟩)) ∧ Fr No w w' := by
  refine (at_calls ros _ c qA qn qc t w hl h).mono ?_
  rintro e w' ⟨⟨v, rfl, ⟨h1, rfl⟩ | ⟨i', b', o', h1, _, h2, rfl⟩⟩, hf⟩
  · rw [hi] at h1; omega
  · injection h2 with h2; injection h2 with h2 h3 _
    rw [hi] at h1
    have : i = i' := by omega
    subst this h2 h3
    exact ⟨rfl, hf⟩
end Go.Proofs.Ytbjknkgefpeohaa
