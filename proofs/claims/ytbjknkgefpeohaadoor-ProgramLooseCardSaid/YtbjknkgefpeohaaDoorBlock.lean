/- Contracts of block and of what it calls: the first deed of a list that may not be. Conditions: a list of at most 2^40 deeds. -/
import Derived.Test.YtbjknkgefpeohaaDoorRight
namespace Go.Proofs.YtbjknkgefpeohaaDoor
open Go.RowKit
set_option maxRecDepth 100000
attribute [local go_sem ↓] Go.wp_at_zero Go.wp_at_succ

/-- No slice of Go has more elements. -/
def Big : Nat := 281474976710656

def deedRow (l : List PDeed) : List Value := l.flatMap deedCells
theorem deedRow_length (l : List PDeed) : (deedRow l).length = l.length * 5 := by
  induction l with
  | nil => rfl
  | cons r l ih => simp [deedRow] at ih ⊢; rw [ih]; simp [deedCells]; omega
theorem deedRow_get (l : List PDeed) : ∀ (i : Nat) (p : PDeed) (j : Nat), l[i]? = some p → j < 5 → (deedRow l)[i * 5 + j]? = (deedCells p)[j]? := by
  induction l with
  | nil => intro i r j h; simp at h
  | cons x l ih =>
    intro i r j h hj
    have hc : deedRow (x :: l) = deedCells x ++ deedRow l := rfl
    rw [hc]
    cases i with
    | zero =>
      simp at h; subst h
      rw [List.getElem?_append_left (by simp [deedCells]; omega)]
      simp
    | succ i =>
      rw [List.getElem?_append_right (by simp [deedCells]; omega)]
      have := ih i r j (by simpa using h) hj
      rw [← this]
      congr 1
      simp [deedCells]
      omega
theorem deed_cells {w : World} {b o c : Nat} {l : List PDeed} {k : Nat} {p : PDeed} (h : Row w 5 (some ⟨b, o, none⟩) l.length c (deedRow l)) (hk : l[k]? = some p) :
    w.cell? ⟨b, o + k * 5, none⟩ = some (.int .i64 p.kind) ∧ w.cell? ⟨b, o + k * 5 + 1, none⟩ = some (.int .i64 p.a) ∧ w.cell? ⟨b, o + k * 5 + 2, none⟩ = some (.int .i64 p.b) ∧ w.cell? ⟨b, o + k * 5 + 3, none⟩ = some (.int .i64 p.i) ∧ w.cell? ⟨b, o + k * 5 + 4, none⟩ = some (.int .i64 p.n) := by
  have hkl : k < l.length := (List.getElem?_eq_some_iff.1 hk).1
  obtain ⟨b', o', hA, _, hc⟩ := h.2.2 (by omega)
  injection hA with hA; injection hA with hb ho _; subst hb; subst ho
  exact ⟨hc _ _ (deedRow_get l k p 0 hk (by decide)), hc _ _ (deedRow_get l k p 1 hk (by decide)), hc _ _ (deedRow_get l k p 2 hk (by decide)), hc _ _ (deedRow_get l k p 3 hk (by decide)), hc _ _ (deedRow_get l k p 4 hk (by decide))⟩

/-- Where the first wrong deed stands; below 0: nowhere. -/
def wrongZ (l : List PDeed) : Int := match l.findIdx? (fun d => !rightP d) with | some i => (i : Int) | none => -1
theorem wrongZ_at {l : List PDeed} {k : Nat} {d : PDeed} (hk : l[k]? = some d) (hd : rightP d = false) (hb : ∀ j, j < k → ∀ x, l[j]? = some x → rightP x = true) : wrongZ l = k := by
  unfold wrongZ
  obtain ⟨hkl, hkd⟩ := List.getElem?_eq_some_iff.1 hk
  have h : l.findIdx? (fun d => !rightP d) = some k := by
    rw [List.findIdx?_eq_some_iff_getElem]
    refine ⟨hkl, by rw [hkd, hd]; rfl, fun j hj => ?_⟩
    rw [hb j hj _ (List.getElem?_eq_getElem (by omega))]
    decide
  rw [h]
theorem wrongZ_none {l : List PDeed} (hb : ∀ j, j < l.length → ∀ x, l[j]? = some x → rightP x = true) : wrongZ l = -1 := by
  unfold wrongZ
  have h : l.findIdx? (fun d => !rightP d) = none := by
    rw [List.findIdx?_eq_none_iff]
    intro x hx
    obtain ⟨j, hj, rfl⟩ := List.mem_iff_getElem.1 hx
    rw [hb j hj _ (List.getElem?_eq_getElem hj)]
    rfl
  rw [h]
def blockZ (l : List PDeed) : Int := if l.length = 0 ∨ 12 < l.length then 0 else wrongZ l

theorem block1_calls (d : PDeed) (w : World) :
    Calls Tryd.prog 43 #[.agg #[.int .i64 d.kind, .int .i64 d.a, .int .i64 d.b, .int .i64 d.i, .int .i64 d.n]] w fun e w' => e = .returned (.bool (!rightP d)) ∧ Fr No w w' := by
  go_enter Tryd.func43, Tryd.ntmps43
  go_wp2_with (go_at_call 15; refine (right_calls d _).mono ?_; rintro e w1 ⟨rfl, hf1⟩)
  go_ret
  exact ⟨rfl, ((Fr.refl _ _).alloc _).trans hf1⟩

set_option maxHeartbeats 1000000 in
theorem indexFunc_calls (l : List PDeed) (A : Option Addr) (c : Nat) (w : World) (hl : l.length ≤ Big) (h : Row w 5 A l.length c (deedRow l)) :
    Calls Tryd.prog 42 #[.slice A l.length c, .func (.func 43) #[] #[]] w fun e w' => e = .returned (.int .i64 (wrongZ l)) ∧ Fr No w w' := by
  go_enter Tryd.func42, Tryd.ntmps42
  unfold Big at hl
  go_wp2_with fail
  go_loopw [5, 8] (fun _ i wr => ∃ k : Nat, k ≤ l.length ∧ i = .int .i64 k ∧ Fr No w wr ∧ ∀ j, j < k → ∀ x, l[j]? = some x → rightP x = true) (fun _ i _ => l.length - (intOf i).toNat)
  case atStart => exact ⟨0, Nat.zero_le _, rfl, Fr.refl _ _, fun j hj => by omega⟩
  case round =>
    obtain ⟨wq, hwq⟩ : ∃ x, x = wr := ⟨_, rfl⟩
    subst hwq
    obtain ⟨k, hk, rfl, hF, hb⟩ := hrel
    by_cases hlt : k < l.length
    · obtain ⟨d, hd⟩ : ∃ d, l[k]? = some d := ⟨_, List.getElem?_eq_getElem hlt⟩
      obtain ⟨g, o, rfl, hg, -⟩ := h.2.2 (by omega)
      obtain ⟨d0, d1, d2, d3, d4⟩ := deed_cells (h.no hF) hd
      have hgl : g < wq.heap.size := Nat.lt_of_lt_of_le hg hF.size
      have i1 : (0 : Int) ≤ (k : Int) := by omega
      have i2 : (k : Int) < (l.length : Int) := by omega
      have Hb := Lib.hid hb
      have Hd := Lib.hid hd
      clear hb hd
      cases hr : rightP d with
      | true =>
        have Hr := Lib.hid hr
        have hc1 := fun W => block1_calls d W
        rw [hr] at hc1
        have Hc := Lib.hid hc1
        clear hr hc1
        go_wp2_with (go_at_call 43; refine (Hc.out _).mono ?_; rintro e w1 ⟨rfl, hf1⟩)
        refine ⟨⟨k + 1, by omega, by go_num, hF.trans hf1, fun j hj x hx => ?_⟩, by simp [intOf]; omega⟩
        rcases Nat.lt_or_ge j k with hjk | hjk
        · exact Hb.out j hjk x hx
        · have : j = k := by omega
          subst this
          rw [Hd.out] at hx; injection hx with hx; subst hx; exact Hr.out
      | false =>
        have Hr := Lib.hid hr
        have hc1 := fun W => block1_calls d W
        rw [hr] at hc1
        have Hc := Lib.hid hc1
        clear hr hc1
        go_wp2_with (go_at_call 43; refine (Hc.out _).mono ?_; rintro e w1 ⟨rfl, hf1⟩)
        go_ret
        exact ⟨ret_int (wrongZ_at Hd.out Hr.out Hb.out).symm, hF.trans hf1⟩
    · have hkl : k = l.length := by omega
      subst hkl
      have Hb := Lib.hid hb
      clear hb
      go_wp2_with fail
      go_ret
      exact ⟨ret_int (wrongZ_none Hb.out).symm, hF⟩

set_option maxHeartbeats 1000000 in
theorem block_calls (l : List PDeed) (A : Option Addr) (c : Nat) (w : World) (hl : l.length ≤ Big) (h : Row w 5 A l.length c (deedRow l)) :
    Calls Tryd.prog 26 #[.slice A l.length c] w fun e w' => e = .returned (.int .i64 (blockZ l)) ∧ Fr No w w' := by
  have hc := indexFunc_calls l A c w hl h
  have Hc := Lib.hid hc
  clear hc h
  unfold Big at hl
  by_cases h0 : l.length = 0 ∨ 12 < l.length
  · have hz : blockZ l = 0 := by unfold blockZ; rw [if_pos h0]
    rw [hz]
    by_cases h1 : l.length = 0
    · rw [h1]
      go_enter Tryd.func26, Tryd.ntmps26
      go_wp2_with fail
      go_ret
      exact ⟨rfl, Fr.refl _ _⟩
    · have h2 : (12 : Int) < (l.length : Int) := by omega
      have h3 : ((l.length : Int) == 0) = false := by rw [beq_eq_false_iff_ne]; omega
      go_enter Tryd.func26, Tryd.ntmps26
      go_wp2_with fail
      go_ret
      exact ⟨rfl, Fr.refl _ _⟩
  · have hz : blockZ l = wrongZ l := by unfold blockZ; rw [if_neg h0]
    rw [hz]
    have h2 : decide ((12 : Int) < (l.length : Int)) = false := by rw [decide_eq_false_iff_not]; omega
    have h3 : ((l.length : Int) == 0) = false := by rw [beq_eq_false_iff_ne]; omega
    clear h0 hz
    go_enter Tryd.func26, Tryd.ntmps26
    go_wp2_with (go_at_call 42; refine Hc.out.mono ?_; rintro e w1 ⟨rfl, hf1⟩)
    go_ret
    exact ⟨rfl, hf1⟩
end Go.Proofs.YtbjknkgefpeohaaDoor
