/- A fitted deed is right. Conditions: none; a plain law. -/
import Derived.Test.YtbjknkgefpeohaaDoorFit15
namespace Go.Proofs.YtbjknkgefpeohaaDoor

theorem fit_right (d : PDeed) : rightP (fitP d) = true := by
  have hk : ∃ k, 1 + pickZ d.kind 14 = k ∧ (k = 1 ∨ k = 2 ∨ k = 3 ∨ k = 4 ∨ k = 5 ∨ k = 6 ∨ k = 7 ∨ k = 8 ∨ k = 9 ∨ k = 10 ∨ k = 11 ∨ k = 12 ∨ k = 13 ∨ k = 14) := ⟨_, rfl, by have := pickZ_bd d.kind 14 (by decide); omega⟩
  obtain ⟨k, hk1, hk2⟩ := hk
  have a := pickZ_bd d.a 6 (by decide)
  have b := pickZ_bd d.b 6 (by decide)
  have i5 := pickZ_bd d.i 5 (by decide)
  have i8 := pickZ_bd d.i 8 (by decide)
  have n5 := pickZ_bd d.n 5 (by decide)
  have nn := pickZ_bd d.n 2000001 (by decide)
  unfold fitP fitB fitI fitN
  rw [hk1]
  generalize pickZ d.a 6 = va at *
  generalize pickZ d.b 6 = vb at *
  generalize pickZ d.i 5 = v5 at *
  generalize pickZ d.i 8 = v8 at *
  generalize pickZ d.n 5 = u5 at *
  generalize pickZ d.n 2000001 = un at *
  clear hk1
  rcases hk2 with rfl | rfl | rfl | rfl | rfl | rfl | rfl | rfl | rfl | rfl | rfl | rfl | rfl | rfl <;>
    simp [rightP, partsOf, wordOf, onlyOf, PDeed.set, PDeed.get, pA, pB, pI, pS, pT, pN, PPart.fits] <;> omega
end Go.Proofs.YtbjknkgefpeohaaDoor
