/- Objects in memory: rows of eight cells, whose lists of pointers and of numbers lie in rows of their own. Conditions: none; plain lemmas. -/
import Derived.Test.YtbjknkgefpeohaaMem
import Derived.Test.YtbjknkgefpeohaaPure
namespace Go.Proofs.Ytbjknkgefpeohaa
open Go.RowKit

/-- An object, and the slice values that its two lists are. -/
structure RO where
  o : PObj
  P : Value
  N : Value

def RO.cells (r : RO) : List Value := [.int .i64 r.o.serial, .int .i64 r.o.np, .int .i64 r.o.nd, .bool r.o.weak, .bool r.o.fin, r.P, r.N, .bool r.o.freed]
/-- What the slice values may be: of lists, or nil. -/
def RO.form (r : RO) : Prop := ∃ pA pc nA nc, r.P = .slice pA r.o.ptrs.length pc ∧ r.N = .slice nA r.o.nums.length nc
def RO.ok (w : World) (r : RO) : Prop := ∃ pA pc nA nc, r.P = .slice pA r.o.ptrs.length pc ∧ r.N = .slice nA r.o.nums.length nc ∧
  Row w 1 pA r.o.ptrs.length pc (intVals r.o.ptrs) ∧ Row w 1 nA r.o.nums.length nc (intVals r.o.nums) ∧ r.o.ptrs.length ≤ Cap ∧ r.o.nums.length ≤ Cap
def rowOf (ros : List RO) : List Value := ros.flatMap RO.cells

theorem RO.cells_length (r : RO) : r.cells.length = 8 := rfl
theorem rowOf_length (ros : List RO) : (rowOf ros).length = ros.length * 8 := by
  induction ros with
  | nil => rfl
  | cons r l ih => simp [rowOf] at ih ⊢; rw [ih]; simp [RO.cells]; omega
theorem rowOf_get (ros : List RO) : ∀ (i : Nat) (r : RO) (j : Nat), ros[i]? = some r → j < 8 → (rowOf ros)[i * 8 + j]? = r.cells[j]? := by
  induction ros with
  | nil => intro i r j h; simp at h
  | cons x l ih =>
    intro i r j h hj
    have hc : rowOf (x :: l) = x.cells ++ rowOf l := rfl
    rw [hc]
    cases i with
    | zero =>
      simp at h; subst h
      rw [List.getElem?_append_left (by rw [RO.cells_length]; omega)]
      simp
    | succ i =>
      rw [List.getElem?_append_right (by rw [RO.cells_length]; omega), RO.cells_length]
      have := ih i r j (by simpa using h) hj
      rw [← this]
      congr 1
      omega
theorem rowOf_one (ros : List RO) (h : ∀ r ∈ ros, r.form) : ∀ u ∈ rowOf ros, u.oneCell' = true := by
  intro u hu
  obtain ⟨r, hr, hu⟩ := List.mem_flatMap.1 hu
  obtain ⟨pA, pc, nA, nc, h1, h2⟩ := h r hr
  simp [RO.cells, h1, h2] at hu
  rcases hu with rfl | rfl | rfl | rfl | rfl | rfl | rfl | rfl <;> rfl
theorem RO.ok.form {w : World} {r : RO} (h : r.ok w) : r.form := by
  obtain ⟨pA, pc, nA, nc, h1, h2, _⟩ := h
  exact ⟨pA, pc, nA, nc, h1, h2⟩
theorem RO.ok.no {w w' : World} {r : RO} (h : r.ok w) (hf : Fr No w w') : r.ok w' := by
  obtain ⟨pA, pc, nA, nc, h1, h2, h3, h4, h5, h6⟩ := h
  exact ⟨pA, pc, nA, nc, h1, h2, h3.no hf, h4.no hf, h5, h6⟩
/-- the eight cells of object i. -/
theorem obj_cells {w : World} {b o n c : Nat} {ros : List RO} (h : Row w 8 (some ⟨b, o, none⟩) n c (rowOf ros)) {i : Nat} {r : RO} (hi : ros[i]? = some r) :
    ∀ j, j < 8 → w.cell? ⟨b, o + (i * 8 + j), none⟩ = r.cells[j]? := by
  intro j hj
  have hil : i < ros.length := (List.getElem?_eq_some_iff.1 hi).1
  have hn : n = ros.length := by have := h.1; rw [rowOf_length] at this; omega
  obtain ⟨b', o', hA, _, hc⟩ := h.2.2 (by omega)
  injection hA with hA; injection hA with hb ho _; subst hb; subst ho
  have hg := rowOf_get ros i r j hi hj
  have hr : r.cells[j]? = some (r.cells[j]'(by rw [RO.cells_length]; omega)) := List.getElem?_eq_getElem _
  rw [hr] at hg ⊢
  exact hc _ _ hg
/-- Items, as a row's cells. -/
def itemVals (qs : List (Int × Int)) : List Value := qs.flatMap fun q => [.int .i64 q.1, .int .i64 q.2]
theorem itemVals_length (qs : List (Int × Int)) : (itemVals qs).length = qs.length * 2 := by
  induction qs with
  | nil => rfl
  | cons q l ih => simp [itemVals] at ih ⊢; omega
theorem itemVals_get (qs : List (Int × Int)) : ∀ (i : Nat) (q : Int × Int), qs[i]? = some q → (itemVals qs)[i * 2]? = some (.int .i64 q.1) ∧ (itemVals qs)[i * 2 + 1]? = some (.int .i64 q.2) := by
  induction qs with
  | nil => intro i q h; simp at h
  | cons x l ih =>
    intro i q h
    have hc : itemVals (x :: l) = .int .i64 x.1 :: .int .i64 x.2 :: itemVals l := rfl
    rw [hc]
    cases i with
    | zero => simp at h; subst h; simp
    | succ i =>
      have := ih i q (by simpa using h)
      have e1 : (i + 1) * 2 = i * 2 + 2 := by omega
      rw [e1]
      simpa using this
theorem itemVals_one (qs : List (Int × Int)) : ∀ u ∈ itemVals qs, u.oneCell' = true := by
  intro u hu
  obtain ⟨q, _, hu⟩ := List.mem_flatMap.1 hu
  simp at hu
  rcases hu with rfl | rfl <;> rfl
end Go.Proofs.Ytbjknkgefpeohaa
