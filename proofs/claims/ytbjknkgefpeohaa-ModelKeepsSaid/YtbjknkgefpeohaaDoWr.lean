/- Contracts of Do at writes and puts, of a model that Fit made. Conditions: right deeds. -/
import Derived.Test.YtbjknkgefpeohaaUse18
namespace Go.Proofs.Ytbjknkgefpeohaa
open Go.RowKit

theorem wrM_len (c : PDeed) (m : PModel) (r : List Int) : (wrM c m r).objs.length = m.objs.length := by
  unfold wrM
  split <;> simp
theorem Lk.len {m : RM} {A : Option Addr} {n c : Nat} {Q : Option Addr} {k qc : Nat} (h : Lk m A n c Q k qc) : n = m.pure.objs.length := by
  obtain ⟨_, rfl, _⟩ := h
  simp [RM.pure]
theorem do_wr {m : RM} {A : Option Addr} {n c : Nat} {Q : Option Addr} {k qc : Nat} (hl : Lk m A n c Q k qc) (hg : Good m.pure) (hn : n ≤ 8) (d : PDeed) (hr : rightP d = true) (hk : d.kind = 5 ∨ d.kind = 7) (r0 r1 r2 r3 r4 r5 f s : Int) (w : World) (h : m.ok w) :
    Calls Try.prog 12 #[.agg #[.slice A n c, .slice Q k qc], .agg #[.int .i64 r0, .int .i64 r1, .int .i64 r2, .int .i64 r3, .int .i64 r4, .int .i64 r5], .agg #[.int .i64 d.kind, .int .i64 d.a, .int .i64 d.b, .int .i64 d.i, .int .i64 d.n], .int .i64 f, .int .i64 s] w
      fun e w' => ∃ A' n' c' Q' k' qc', ∃ m' : RM, e = .returned (.tuple #[.agg #[.slice A' n' c', .slice Q' k' qc'], .agg #[.int .i64 r0, .int .i64 r1, .int .i64 r2, .int .i64 r3, .int .i64 r4, .int .i64 r5], .int .i64 0, .int .i64 (wrE d m.pure [r0, r1, r2, r3, r4, r5])]) ∧ Lk m' A' n' c' Q' k' qc' ∧ m'.ok w' ∧ m'.pure = wrM d m.pure [r0, r1, r2, r3, r4, r5] ∧ n' ≤ 8 ∧ Good m'.pure ∧ Fr No w w' := by
  refine (do_out hl d r0 r1 r2 r3 r4 r5 f s w h (Nat.le_trans (by omega : n + 1 ≤ 9) (by decide))).mono ?_
  rintro e w' ⟨A', n', c', Q', k', qc', s0, s1, s2, s3, s4, s5, v, x, m', rfl, hl', hok, hd, hf⟩
  rw [wr_do hg _ f s hr hk] at hd
  simp only [Prod.mk.injEq, List.cons.injEq, and_true] at hd
  obtain ⟨a1, ⟨rfl, rfl, rfl, rfl, rfl, rfl⟩, rfl, rfl⟩ := hd
  have e1 := hl.len
  have e2 := hl'.len
  rw [← a1, wrM_len] at e2
  exact ⟨A', n', c', Q', k', qc', m', rfl, hl', hok, a1.symm, by omega, by rw [← a1]; exact good_wr hg _ _, hf⟩
end Go.Proofs.Ytbjknkgefpeohaa
