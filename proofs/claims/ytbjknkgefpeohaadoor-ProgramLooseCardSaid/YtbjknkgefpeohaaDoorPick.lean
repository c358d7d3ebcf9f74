/- Contracts of pick. Conditions: a number of 64 bits, at least one thing. -/
import Derived.Test.YtbjknkgefpeohaaDoorMem
import Derived.Test.YtbjknkgefpeohaaDoorLeaf
import Derived.Test.YtbjknkgefpeohaaDoorPure
namespace Go.Proofs.YtbjknkgefpeohaaDoor
open Go.RowKit
set_option maxRecDepth 100000
attribute [local go_sem ↓] Go.wp_at_zero Go.wp_at_succ

/-- A number of 64 bits. -/
def I64 (c : Int) : Prop := -9223372036854775808 ≤ c ∧ c ≤ 9223372036854775807
theorem pickZ_emod {c n : Int} (hc : ¬ c < 0) : pickZ c n = c % n := by
  unfold pickZ
  rw [if_neg hc]
theorem pickZ_tmod' {c n : Int} (hc : c < 0) : pickZ c n = (-(c + 1)).tmod n := by
  unfold pickZ
  rw [if_pos hc, Int.tmod_eq_emod_of_nonneg (by omega)]

set_option maxHeartbeats 400000 in
theorem pick_15 (c n : Int) (hc : I64 c) (hn : 0 < n) (hn1 : n ≤ 9223372036854775807) (w : World) :
    Calls Tryd.prog 17 #[.int .i64 c, .int .i64 n] w fun e w' => e = .returned (.int .i64 (pickZ c n)) ∧ w' = w := by
  obtain ⟨h0, h1⟩ := hc
  have hn0 : (n == 0) = false := by rw [beq_eq_false_iff_ne]; omega
  have hP : ∀ v, v = pickZ c n → Ending.returned (.int .i64 v) = .returned (.int .i64 (pickZ c n)) := fun v hv => by rw [hv]
  by_cases hc0 : c < 0
  · have e := pickZ_tmod' (n := n) hc0
    rw [Int.neg_tmod] at e
    have HP := Lib.hid (hP _ e.symm)
    clear hP e
    generalize pickZ c n = v at *
    go_enter Tryd.func17, Tryd.ntmps17
    go_wp2_with fail
    go_ret
    exact ⟨HP.out, rfl⟩
  · have e := pickZ_emod (n := n) hc0
    have HP := Lib.hid (hP _ e.symm)
    clear hP e
    generalize pickZ c n = v at *
    have hc1 : 0 ≤ c := by omega
    have hc2 : decide (c < 0) = false := by simpa using hc0
    clear hc0
    go_enter Tryd.func17, Tryd.ntmps17
    go_wp2_with fail
    go_ret
    exact ⟨HP.out, rfl⟩
end Go.Proofs.YtbjknkgefpeohaaDoor
