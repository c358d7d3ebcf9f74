/- Contract of Same: two models are compared. Conditions: lists shorter than 2^40. -/
import Derived.Test.YtbjknkgefpeohaaEq
namespace Go.Proofs.Ytbjknkgefpeohaa
open Go.RowKit
attribute [local go_sem ↓] Go.wp_at_zero Go.wp_at_succ

set_option maxHeartbeats 1000000 in
theorem same_1 (r r' : RO) (w : World) (h : r.ok w) (h' : r'.ok w) :
    Calls Try.prog 24 #[.agg r.cells.toArray, .agg r'.cells.toArray] w
      fun e w' => e = .returned (.bool (decide (r.o = r'.o))) ∧ Fr No w w' := by
  obtain ⟨⟨s, p, d, wk, fi, ps, ns, fr⟩, P, N⟩ := r
  obtain ⟨⟨s', p', d', wk', fi', ps', ns', fr'⟩, P', N'⟩ := r'
  obtain ⟨pA, pc, nA, nc, h1, h2, h3, h4, h5, h6⟩ := h
  obtain ⟨pA', pc', nA', nc', h1', h2', h3', h4', h5', h6'⟩ := h'
  dsimp only at h1 h2 h3 h4 h5 h6 h1' h2' h3' h4' h5' h6'
  subst h1 h2 h1' h2'
  simp only [RO.cells]
  have hk1 : ∀ W, Fr No w W → Calls Try.prog 25 #[.slice pA ps.length pc, .slice pA' ps'.length pc'] W fun e w' => e = .returned (.bool (decide (ps = ps'))) ∧ Fr No W w' := fun W hW => equal_int _ _ _ _ _ _ _ h5 h5' (h3.no hW) (h3'.no hW)
  have hk2 : ∀ W, Fr No w W → Calls Try.prog 25 #[.slice nA ns.length nc, .slice nA' ns'.length nc'] W fun e w' => e = .returned (.bool (decide (ns = ns'))) ∧ Fr No W w' := fun W hW => equal_int _ _ _ _ _ _ _ h6 h6' (h4.no hW) (h4'.no hW)
  have Hk1 := Lib.hid hk1
  have Hk2 := Lib.hid hk2
  clear hk1 hk2 h3 h3' h4 h4' h5 h5' h6 h6'
  have hf0 : ∀ (a b : Obj), Fr No w ((w.alloc a).alloc b) := fun a b => ((Fr.refl _ _).alloc _).alloc _
  have Hf0 := Lib.hid hf0
  clear hf0
  by_cases e_s : s = s'
  case neg =>
    go_enter Try.func24, Try.ntmps24
    go_wp2_with fail
    all_goals (go_ret; exact ⟨ret_bool (decide_eq_false (by intro hh; injection hh; contradiction)).symm, Hf0.out _ _⟩)
  subst e_s
  by_cases e_p : p = p'
  case neg =>
    go_enter Try.func24, Try.ntmps24
    go_wp2_with fail
    all_goals (go_ret; exact ⟨ret_bool (decide_eq_false (by intro hh; injection hh; contradiction)).symm, Hf0.out _ _⟩)
  subst e_p
  by_cases e_d : d = d'
  case neg =>
    go_enter Try.func24, Try.ntmps24
    go_wp2_with fail
    all_goals (go_ret; exact ⟨ret_bool (decide_eq_false (by intro hh; injection hh; contradiction)).symm, Hf0.out _ _⟩)
  subst e_d
  by_cases e_wk : wk = wk'
  case neg =>
    have b_wk : (wk == wk') = false := by simp [e_wk]
    go_enter Try.func24, Try.ntmps24
    go_wp2_with fail
    all_goals (go_ret; exact ⟨ret_bool (decide_eq_false (by intro hh; injection hh; contradiction)).symm, Hf0.out _ _⟩)
  subst e_wk
  by_cases e_fi : fi = fi'
  case neg =>
    have b_fi : (fi == fi') = false := by simp [e_fi]
    go_enter Try.func24, Try.ntmps24
    go_wp2_with fail
    all_goals (go_ret; exact ⟨ret_bool (decide_eq_false (by intro hh; injection hh; contradiction)).symm, Hf0.out _ _⟩)
  subst e_fi
  by_cases e_fr : fr = fr'
  case neg =>
    have b_fr : (fr == fr') = false := by simp [e_fr]
    go_enter Try.func24, Try.ntmps24
    go_wp2_with fail
    all_goals (go_ret; exact ⟨ret_bool (decide_eq_false (by intro hh; injection hh; contradiction)).symm, Hf0.out _ _⟩)
  subst e_fr
  by_cases e_ps : ps = ps'
  case neg =>
    have hd : decide (ps = ps') = false := by simp [e_ps]
    rw [hd] at Hk1
    go_enter Try.func24, Try.ntmps24
    go_wp2_with (go_at_call 25; with_reducible refine (Hk1.out _ (Hf0.out _ _)).mono ?_; rintro e w1 ⟨rfl, hf1⟩)
    go_ret
    exact ⟨ret_bool (decide_eq_false (by intro hh; injection hh; contradiction)).symm, (Hf0.out _ _).trans hf1⟩
  have hd : decide (ps = ps') = true := by simp [e_ps]
  rw [hd] at Hk1
  have E := Lib.hid e_ps
  clear e_ps hd
  have hW : ∀ w1, Fr No ((w.alloc (.cells #[.int .i64 s, .int .i64 p, .int .i64 d, .bool wk, .bool fi, .slice pA ps.length pc, .slice nA ns.length nc, .bool fr] 41)).alloc (.cells #[.int .i64 s, .int .i64 p, .int .i64 d, .bool wk, .bool fi, .slice pA' ps'.length pc', .slice nA' ns'.length nc', .bool fr] 41)) w1 → w1.cell? ⟨w.heap.size, 6, none⟩ = some (.slice nA ns.length nc) ∧ w1.cell? ⟨w.heap.size + 1, 6, none⟩ = some (.slice nA' ns'.length nc') := fun w1 hf => by
    have a1 := (hf.whole (((Whole.new w 41 [.int .i64 s, .int .i64 p, .int .i64 d, .bool wk, .bool fi, .slice pA ps.length pc, .slice nA ns.length nc, .bool fr]).alloc _)) (fun x => x)).cell 6
    have a2 := (hf.whole (Whole.new1 w 41 [.int .i64 s, .int .i64 p, .int .i64 d, .bool wk, .bool fi, .slice pA' ps'.length pc', .slice nA' ns'.length nc', .bool fr] _) (fun x => x)).cell 6
    exact ⟨a1, a2⟩
  have HW := Lib.hid hW
  clear hW
  go_enter Try.func24, Try.ntmps24
  go_wp2_with (first | (go_at_call 25; with_reducible refine (Hk1.out _ (Hf0.out _ _)).mono ?_; rintro e w1 ⟨rfl, hf1⟩; obtain ⟨g1, g2⟩ := HW.out _ hf1) | (go_at_call 25; with_reducible refine (Hk2.out _ ((Hf0.out _ _).trans hf1)).mono ?_; rintro e w2 ⟨rfl, hf2⟩))
  go_ret
  refine ⟨ret_bool ?_, ((Hf0.out _ _).trans hf1).trans hf2⟩
  have := E.out
  subst this
  simp
end Go.Proofs.Ytbjknkgefpeohaa
