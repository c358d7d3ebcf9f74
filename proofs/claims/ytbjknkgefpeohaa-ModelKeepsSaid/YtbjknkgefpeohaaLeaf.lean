/- Contracts of the small functions that model is made of: Clone of ints and of items, the search for a serial. Conditions: each list is shorter than 2^40. -/
import Derived.Test.YtbjknkgefpeohaaRows
import Derived.Test.YtbjknkgefpeohaaMem
namespace Go.Proofs.Ytbjknkgefpeohaa
open Go.RowKit

theorem sl_int : SlTy Try.prog 39 3 1 8 := slTy_mk Try.underlying39 (z := .int .i64 0) (by kernel_rfl) rfl (by decide) (by decide)
theorem sl_item : SlTy Try.prog 23 43 2 16 := slTy_mk Try.underlying23 (z := .agg #[.int .i64 0, .int .i64 0]) (by kernel_rfl) rfl (by decide) (by decide)
theorem sl_obj : SlTy Try.prog 22 41 8 88 := slTy_mk Try.underlying22 (z := .agg #[.int .i64 0, .int .i64 0, .int .i64 0, .bool false, .bool false, .slice none 0 0, .slice none 0 0, .bool false]) (by kernel_rfl) rfl (by decide) (by decide)

/-- slices.Clone: a row of the call's own that reads the same. -/
theorem clone_int (xs : List Value) (n : Nat) (A : Option Addr) (c : Nat) (w : World) (hl : n ≤ Cap) (h : Row w 1 A n c xs) (h1 : ∀ u ∈ xs, u.oneCell' = true) :
    Calls Try.prog 50 #[.slice A n c] w fun e w' => ∃ A' c', e = .returned (.slice A' n c') ∧ w'.ownsRow w.heap.size 3 1 (.slice A' n c') n xs ∧ Fr No w w' := by
  have hnil := fun W => Lib.run_eql_slice_nil (P := Try.prog) W 39 3 A n c 0 0 Try.underlying39
  cases A with
  | none =>
    have hn : n = 0 := by
      rcases Nat.eq_zero_or_pos n with h0 | h0
      · exact h0
      · obtain ⟨b, o, hb, _⟩ := h.2.2 h0; cases hb
    subst hn
    have hx : xs = [] := List.eq_nil_of_length_eq_zero (by simpa using h.1)
    subst hx
    go_enter Try.func50, Try.ntmps50
    go_wp2
    go_ret
    exact ⟨_, _, rfl, World.ownsRow_nil _ _ _ _, Fr.refl _ _⟩
  | some a =>
    have h' : Row (w.alloc (.cells #[] 3)) 1 (some a) n c xs := h.no ((Fr.refl _ _).alloc _)
    go_enter Try.func50, Try.ntmps50
    go_wp2_with (at_builtin; refine wpList_app sl_int _ rfl (.tmp 5) (.tmp 6) rfl w.heap.size (.slice (some ⟨w.heap.size, 0, none⟩) 0 0) 0 [] rfl (World.ownsRow_made w #[] 0 (Nat.le_refl _) (by decide) (by decide)) (some a) n c xs rfl h' h1 (by omega) (by simp) ?_; intro v1 w1 hown1 hg1 hat1)
    go_ret
    obtain ⟨A', c', rfl, hn', hc'⟩ := own_slice hown1
    exact ⟨A', c', by simp, by simpa using hown1, ((Fr.refl _ _).alloc _).grown hg1 (fun k hk => Or.inr (by simp [Value.ownBlock] at hk; omega))⟩

/-- The same of items. -/
theorem clone_item (xs : List Value) (n : Nat) (A : Option Addr) (c : Nat) (w : World) (hl : n ≤ Cap) (h : Row w 2 A n c xs) (h1 : ∀ u ∈ xs, u.oneCell' = true) :
    Calls Try.prog 33 #[.slice A n c] w fun e w' => ∃ A' c', e = .returned (.slice A' n c') ∧ w'.ownsRow w.heap.size 43 2 (.slice A' n c') n xs ∧ Fr No w w' := by
  have hnil := fun W => Lib.run_eql_slice_nil (P := Try.prog) W 23 43 A n c 0 0 Try.underlying23
  cases A with
  | none =>
    have hn : n = 0 := by
      rcases Nat.eq_zero_or_pos n with h0 | h0
      · exact h0
      · obtain ⟨b, o, hb, _⟩ := h.2.2 h0; cases hb
    subst hn
    have hx : xs = [] := List.eq_nil_of_length_eq_zero (by simpa using h.1)
    subst hx
    go_enter Try.func33, Try.ntmps33
    go_wp2
    go_ret
    exact ⟨_, _, rfl, World.ownsRow_nil _ _ _ _, Fr.refl _ _⟩
  | some a =>
    have h' : Row (w.alloc (.cells #[] 43)) 2 (some a) n c xs := h.no ((Fr.refl _ _).alloc _)
    go_enter Try.func33, Try.ntmps33
    go_wp2_with (at_builtin; refine wpList_app sl_item _ rfl (.tmp 5) (.tmp 6) rfl w.heap.size (.slice (some ⟨w.heap.size, 0, none⟩) 0 0) 0 [] rfl (World.ownsRow_made w #[] 0 (Nat.le_refl _) (by decide) (by decide)) (some a) n c xs rfl h' h1 (by omega) (by simp) ?_; intro v1 w1 hown1 hg1 hat1)
    go_ret
    obtain ⟨A', c', rfl, hn', hc'⟩ := own_slice hown1
    exact ⟨A', c', by simp, by simpa using hown1, ((Fr.refl _ _).alloc _).grown hg1 (fun k hk => Or.inr (by simp [Value.ownBlock] at hk; omega))⟩

end Go.Proofs.Ytbjknkgefpeohaa
