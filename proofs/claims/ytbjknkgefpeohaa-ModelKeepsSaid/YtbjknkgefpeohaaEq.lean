/- Contracts of the comparisons of lists, objects and models. Conditions: lists shorter than 2^40. -/
import Derived.Test.YtbjknkgefpeohaaOwn
namespace Go.Proofs.Ytbjknkgefpeohaa
open Go.RowKit
attribute [local go_sem ↓] Go.wp_at_zero Go.wp_at_succ

theorem Row.int_at {w : World} {b o c : Nat} {l : List Int} {x : Int} {k : Nat} (h : Row w 1 (some ⟨b, o, none⟩) l.length c (intVals l)) (hk : l[k]? = some x) : w.cell? ⟨b, o + k, none⟩ = some (.int .i64 x) := by
  have hkl : k < l.length := (List.getElem?_eq_some_iff.1 hk).1
  obtain ⟨b', o', hA, _, hc⟩ := h.2.2 (by omega)
  injection hA with hA; injection hA with hb ho _; subst hb; subst ho
  exact hc k _ (by rw [intVals_get, hk]; rfl)
theorem Row.item_at {w : World} {b o c : Nat} {l : List (Int × Int)} {x : Int × Int} {k : Nat} (h : Row w 2 (some ⟨b, o, none⟩) l.length c (itemVals l)) (hk : l[k]? = some x) :
    w.cell? ⟨b, o + k * 2, none⟩ = some (.int .i64 x.1) ∧ w.cell? ⟨b, o + k * 2 + 1, none⟩ = some (.int .i64 x.2) := by
  have hkl : k < l.length := (List.getElem?_eq_some_iff.1 hk).1
  obtain ⟨b', o', hA, _, hc⟩ := h.2.2 (by omega)
  injection hA with hA; injection hA with hb ho _; subst hb; subst ho
  have := itemVals_get l k x hk
  exact ⟨hc _ _ this.1, hc (k * 2 + 1) _ this.2⟩

set_option maxHeartbeats 400000 in
theorem equal_int (l l' : List Int) (A A' : Option Addr) (c c' : Nat) (w : World) (hl : l.length ≤ Cap) (hl' : l'.length ≤ Cap) (h : Row w 1 A l.length c (intVals l)) (h' : Row w 1 A' l'.length c' (intVals l')) :
    Calls Try.prog 25 #[.slice A l.length c, .slice A' l'.length c'] w fun e w' => e = .returned (.bool (decide (l = l'))) ∧ Fr No w w' := by
  have hlen : l.length ≤ 9223372036854775807 := by have := cap_lt hl; omega
  have hlen' : l'.length ≤ 9223372036854775807 := by have := cap_lt hl'; omega
  clear hl hl'
  by_cases he : l.length = l'.length
  · have hb : ((l.length : Int) != (l'.length : Int)) = false := by simp [he]
    have He := Lib.hid he
    clear he
    go_enter Try.func25, Try.ntmps25
    go_wp2
    go_loopw [5, 13] (fun _ i wr => ∃ k : Nat, k ≤ l.length ∧ i = .int .i64 k ∧ Fr No w wr ∧ ∀ j, j < k → l[j]? = l'[j]?) (fun _ i _ => l.length - (intOf i).toNat)
    case atStart => exact ⟨0, Nat.zero_le _, rfl, Fr.refl _ _, fun j hj => absurd hj (by omega)⟩
    case round =>
      obtain ⟨k, hk, rfl, hfr, hall⟩ := hrel
      have Hall := Lib.hid hall
      clear hall
      by_cases hlt : k < l.length
      · have hlt' : k < l'.length := by have := He.out; omega
        obtain ⟨x, hx⟩ : ∃ x, l[k]? = some x := ⟨_, List.getElem?_eq_getElem hlt⟩
        obtain ⟨y, hy⟩ : ∃ y, l'[k]? = some y := ⟨_, List.getElem?_eq_getElem hlt'⟩
        obtain ⟨b, o, rfl, -, -⟩ := h.2.2 (by omega)
        obtain ⟨b', o', rfl, -, -⟩ := h'.2.2 (by omega)
        have c0 := (h.no hfr).int_at hx
        have c1 := (h'.no hfr).int_at hy
        have i1 : (0 : Int) ≤ (k : Int) := by omega
        have i2 : (k : Int) < (l.length : Int) := by omega
        have i3 : (k : Int) < (l'.length : Int) := by omega
        have Hx := Lib.hid hx
        have Hy := Lib.hid hy
        clear h h' hx hy
        by_cases hxy : x = y
        · have hne : (x != y) = false := by simp [hxy]
          have Hxy := Lib.hid hxy
          clear hxy
          go_wp2
          go_quiet (fail)
          go_wp2
          go_roundw
          case rel => exact ⟨k + 1, by omega, by go_num, hfr.drewN _, fun j hj => by
            rcases Nat.lt_succ_iff_lt_or_eq.1 hj with hj | hj
            · exact Hall.out j hj
            · subst hj; rw [Hx.out, Hy.out, Hxy.out]⟩
          case measure => simp [intOf]; omega
        · have hne : (x != y) = true := by simp [hxy]
          have Hxy := Lib.hid hxy
          clear hxy
          go_wp2
          go_quiet (fail)
          go_wp2
          go_ret
          exact ⟨ret_bool (by
            symm; rw [decide_eq_false_iff_not]; rintro rfl
            have := Hx.out; rw [Hy.out] at this; injection this with this; exact Hxy.out this.symm), hfr.drewN _⟩
      · go_wp2
        go_ret
        exact ⟨ret_bool (by
          symm; rw [decide_eq_true_iff]
          apply List.ext_getElem?
          intro j
          by_cases hj : j < l.length
          · exact Hall.out j (by omega)
          · rw [List.getElem?_eq_none (by omega), List.getElem?_eq_none (by have := He.out; omega)]), hfr⟩
  · have hb : ((l.length : Int) != (l'.length : Int)) = true := by simp; omega
    have He := Lib.hid he
    clear he
    go_enter Try.func25, Try.ntmps25
    go_wp2
    go_ret
    exact ⟨ret_bool (by symm; rw [decide_eq_false_iff_not]; rintro rfl; exact He.out rfl), Fr.refl _ _⟩
set_option maxHeartbeats 400000 in
theorem equal_item (l l' : List (Int × Int)) (A A' : Option Addr) (c c' : Nat) (w : World) (hl : l.length ≤ Cap) (hl' : l'.length ≤ Cap) (h : Row w 2 A l.length c (itemVals l)) (h' : Row w 2 A' l'.length c' (itemVals l')) :
    Calls Try.prog 22 #[.slice A l.length c, .slice A' l'.length c'] w fun e w' => e = .returned (.bool (decide (l = l'))) ∧ Fr No w w' := by
  have hlen : l.length ≤ 9223372036854775807 := by have := cap_lt hl; omega
  have hlen' : l'.length ≤ 9223372036854775807 := by have := cap_lt hl'; omega
  clear hl hl'
  by_cases he : l.length = l'.length
  · have hb : ((l.length : Int) != (l'.length : Int)) = false := by simp [he]
    have He := Lib.hid he
    clear he
    go_enter Try.func22, Try.ntmps22
    go_wp2
    go_loopw [5, 13] (fun _ i wr => ∃ k : Nat, k ≤ l.length ∧ i = .int .i64 k ∧ Fr No w wr ∧ ∀ j, j < k → l[j]? = l'[j]?) (fun _ i _ => l.length - (intOf i).toNat)
    case atStart => exact ⟨0, Nat.zero_le _, rfl, Fr.refl _ _, fun j hj => absurd hj (by omega)⟩
    case round =>
      obtain ⟨k, hk, rfl, hfr, hall⟩ := hrel
      have Hall := Lib.hid hall
      clear hall
      by_cases hlt : k < l.length
      · have hlt' : k < l'.length := by have := He.out; omega
        obtain ⟨x, hx⟩ : ∃ x, l[k]? = some x := ⟨_, List.getElem?_eq_getElem hlt⟩
        obtain ⟨y, hy⟩ : ∃ y, l'[k]? = some y := ⟨_, List.getElem?_eq_getElem hlt'⟩
        obtain ⟨b, o, rfl, -, -⟩ := h.2.2 (by omega)
        obtain ⟨b', o', rfl, -, -⟩ := h'.2.2 (by omega)
        obtain ⟨x1, x2⟩ := x
        obtain ⟨y1, y2⟩ := y
        obtain ⟨c0, c1⟩ := (h.no hfr).item_at hx
        obtain ⟨d0, d1⟩ := (h'.no hfr).item_at hy
        dsimp only at c0 c1 d0 d1
        have i1 : (0 : Int) ≤ (k : Int) := by omega
        have i2 : (k : Int) < (l.length : Int) := by omega
        have i3 : (k : Int) < (l'.length : Int) := by omega
        have Hx := Lib.hid hx
        have Hy := Lib.hid hy
        clear h h' hx hy
        by_cases h1 : x1 = y1
        · subst h1
          by_cases h2 : x2 = y2
          · subst h2
            go_wp2
            go_quiet (fail)
            go_wp2
            go_roundw
            case rel => exact ⟨k + 1, by omega, by go_num, hfr.drewN _, fun j hj => by
              rcases Nat.lt_succ_iff_lt_or_eq.1 hj with hj | hj
              · exact Hall.out j hj
              · subst hj; rw [Hx.out, Hy.out]⟩
            case measure => simp [intOf]; omega
          · have Hne : Hid (l ≠ l') := Lib.hid (by rintro rfl; have := Hx.out; rw [Hy.out] at this; injection this with this; injection this with _ e2; exact h2 e2.symm)
            go_wp2
            go_quiet (fail)
            go_wp2
            go_ret
            exact ⟨ret_bool (decide_eq_false Hne.out).symm, hfr.drewN _⟩
        · have Hne : Hid (l ≠ l') := Lib.hid (by rintro rfl; have := Hx.out; rw [Hy.out] at this; injection this with this; injection this with e1 _; exact h1 e1.symm)
          go_wp2
          go_quiet (fail)
          go_wp2
          go_ret
          exact ⟨ret_bool (decide_eq_false Hne.out).symm, hfr.drewN _⟩
      · go_wp2
        go_ret
        exact ⟨ret_bool (by
          symm; rw [decide_eq_true_iff]
          apply List.ext_getElem?
          intro j
          by_cases hj : j < l.length
          · exact Hall.out j (by omega)
          · rw [List.getElem?_eq_none (by omega), List.getElem?_eq_none (by have := He.out; omega)]), hfr⟩
  · have hb : ((l.length : Int) != (l'.length : Int)) = true := by simp; omega
    have He := Lib.hid he
    clear he
    go_enter Try.func22, Try.ntmps22
    go_wp2
    go_ret
    exact ⟨ret_bool (by symm; rw [decide_eq_false_iff_not]; rintro rfl; exact He.out rfl), Fr.refl _ _⟩
end Go.Proofs.Ytbjknkgefpeohaa
