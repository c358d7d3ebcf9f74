/- How many objects a deed changed: plain lemmas for ModelKeeps. Conditions: none. -/
import Derived.Test.YtbjknkgefpeohaaLaw18b
namespace Go.Proofs.Ytbjknkgefpeohaa

/-- How many of the first k places differ. -/
def cntD (a b : List PObj) : Nat → Nat
  | 0 => 0
  | k + 1 => cntD a b k + if a[k]? = b[k]? then 0 else 1
theorem cntD_one {a b : List PObj} (h : OneOff a b) : ∀ k, k ≤ a.length → cntD a b k ≤ 1 := by
  obtain ⟨k0, hk0⟩ := h
  have key : ∀ k, k ≤ a.length → cntD a b k ≤ if k0 < k then 1 else 0 := by
    intro k
    induction k with
    | zero => intro _; simp [cntD]
    | succ k ih =>
      intro hk
      have h1 := ih (by omega)
      unfold cntD
      by_cases hkk : k = k0
      · subst hkk
        rw [if_neg (by omega : ¬ k < k)] at h1
        rw [if_pos (by omega : k < k + 1)]
        split <;> omega
      · rw [if_pos (hk0 k (by omega) hkk).symm]
        by_cases h2 : k0 < k
        · rw [if_pos h2] at h1; rw [if_pos (by omega : k0 < k + 1)]; omega
        · rw [if_neg h2] at h1; rw [if_neg (by omega : ¬ k0 < k + 1)]; omega
  intro k hk
  have := key k hk
  split at this <;> omega
theorem cntD_same (a : List PObj) : ∀ k, cntD a a k = 0 := by
  intro k
  induction k with
  | zero => rfl
  | succ k ih => unfold cntD; rw [ih]; simp
theorem items_len (p : PModel) (q : Int × Int) (l : List (Int × Int)) (h : p.queue = q :: l) : p.queue.length = l.length + 1 := by rw [h]; rfl
end Go.Proofs.Ytbjknkgefpeohaa
