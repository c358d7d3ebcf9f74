/- ModelFreed answers true: what is freed is told as freed by each deed that looks at it. Conditions: numbers of 64 bits. -/
import Derived.Test.YtbjknkgefpeohaaUse18
import Derived.Test.YtbjknkgefpeohaaTakes
import Derived.BigQuiet
namespace Go.Proofs.Ytbjknkgefpeohaa
open Go.RowKit
attribute [local go_sem ↓] Go.wp_at_zero Go.wp_at_succ

theorem six_at (t0 t1 t2 t3 t4 t5 : Int) {an : Nat} (h : an < 6) : ([.int .i64 t0, .int .i64 t1, .int .i64 t2, .int .i64 t3, .int .i64 t4, .int .i64 t5] : List Value)[an]? = some (.int .i64 ([t0, t1, t2, t3, t4, t5].getD an 0)) := by
  match an, h with
  | 0, _ => rfl
  | 1, _ => rfl
  | 2, _ => rfl
  | 3, _ => rfl
  | 4, _ => rfl
  | 5, _ => rfl
theorem right_b {c : PDeed} (h : rightP c = true) (hk : c.kind = 4 ∨ c.kind = 9) : 0 ≤ c.b ∧ c.b ≤ 5 := by
  have hf := right_fits h
  rcases hk with hk | hk <;> rw [hk] at hf
  all_goals exact hf pB (by simp [partsOf])

set_option maxRecDepth 4000 in
set_option maxHeartbeats 40000000 in
theorem freed_calls (ros : List RO) (A : Option Addr) (c : Nat) (r0 r1 r2 r3 r4 r5 : Int) (d : PDeed) (w : World) (hl : ros.length ≤ 9223372036854775807)
    (h : Row w 8 A ros.length c (rowOf ros)) (hraw : ∀ r ∈ ros, r.raw w) (hr : ∀ x ∈ [r0, r1, r2, r3, r4, r5], I64 x) (hd : d.i64) :
    Calls Try.prog 6 #[.slice A ros.length c, .agg #[.int .i64 r0, .int .i64 r1, .int .i64 r2, .int .i64 r3, .int .i64 r4, .int .i64 r5], .agg #[.int .i64 d.kind, .int .i64 d.a, .int .i64 d.b, .int .i64 d.i, .int .i64 d.n]] w
      fun e w' => e = .returned (.bool true) ∧ Fr No w w' := by
  have Hfit := Lib.hid fun W (hW : Fr No w W) => fit_out ros A c [] none 0 W hl (by simp) (h.no hW) (fun r hr => (hraw r hr).no hW) (Row.nil _ _ _ _) (fun q hq => by cases hq)
  clear h hraw hl
  generalize ros.length = len at *
  go_enter Try.func6, Try.ntmps6
  go_wp2_with fail
  have h4 := (Whole.new w 24 [.int .i64 r0, .int .i64 r1, .int .i64 r2, .int .i64 r3, .int .i64 r4, .int .i64 r5]).alloc (.cells ([.int .i64 d.kind, .int .i64 d.a, .int .i64 d.b, .int .i64 d.i, .int .i64 d.n] : List Value).toArray 26)
  have h5 := Whole.new1 w 26 [.int .i64 d.kind, .int .i64 d.a, .int .i64 d.b, .int .i64 d.i, .int .i64 d.n] (.cells ([.int .i64 r0, .int .i64 r1, .int .i64 r2, .int .i64 r3, .int .i64 r4, .int .i64 r5] : List Value).toArray 24)
  refine (awake_calls _).mono ?_
  rintro e w1 ⟨rfl, hf⟩
  (replace h4 := hf.whole h4 (fun x => x))
  (replace h5 := hf.whole h5 (fun x => x))
  have hF := (((Fr.refl No w).alloc _).alloc _).trans hf
  clear hf
  go_wp2_with fail
  refine (Hfit.out _ hF).mono ?_
  rintro e w2 ⟨A1, n1, c1, Q1, k1, q1, m, rfl, hlk, hok, hp, hn8, hf⟩
  (replace h4 := hf.whole h4 (fun x => x))
  (replace h5 := hf.whole h5 (fun x => x))
  replace hF := hF.trans hf
  clear hf
  generalize w.heap.size = g4 at *
  generalize g4 + 1 = g5 at *
  have e4 := h4.cell
  have l4 := h4.lt
  go_wp2_with fail
  have hM := Whole.new w2 29 [.slice A1 n1 c1, .slice Q1 k1 q1]
  have hf : Fr No w2 (w2.alloc (.cells ([.slice A1 n1 c1, .slice Q1 k1 q1] : List Value).toArray 29)) := (Fr.refl _ _).alloc _
  replace hF := hF.trans hf
  replace hok := hok.no hf
  (replace h5 := hf.whole h5 (fun x => x))
  clear hf h4 e4 l4
  refine (regs_out r0 r1 r2 r3 r4 r5 hr hn8 _).mono ?_
  rintro e w3 ⟨s0, s1, s2, s3, s4, s5, rfl, hs, hf⟩
  (replace hM := hf.whole hM (fun x => x))
  (replace h5 := hf.whole h5 (fun x => x))
  replace hF := hF.trans hf
  replace hok := hok.no hf
  clear hf
  generalize w2.heap.size = gM at *
  have e5 := h5.cell
  have l5 := h5.lt
  go_wp2_with fail
  have hR := Whole.new w3 24 [.int .i64 s0, .int .i64 s1, .int .i64 s2, .int .i64 s3, .int .i64 s4, .int .i64 s5]
  have hf : Fr No w3 (w3.alloc (.cells ([.int .i64 s0, .int .i64 s1, .int .i64 s2, .int .i64 s3, .int .i64 s4, .int .i64 s5] : List Value).toArray 24)) := (Fr.refl _ _).alloc _
  replace hF := hF.trans hf
  replace hok := hok.no hf
  (replace hM := hf.whole hM (fun x => x))
  clear hf h5 e5 l5
  refine (fit_15 d hd _).mono ?_
  rintro e w4 ⟨rfl, hf⟩
  (replace hM := hf.whole hM (fun x => x))
  (replace hR := hf.whole hR (fun x => x))
  replace hF := hF.trans hf
  replace hok := hok.no hf
  clear hf
  generalize w3.heap.size = gR at *
  have hcr := fit_right d
  generalize fitP d = cd at *
  have hg : Good m.pure := by rw [hp]; exact fit_good _ _
  have hcap : n1 + 1 ≤ Cap := Nat.le_trans (by omega : n1 + 1 ≤ 9) (by decide)
  clear hp hs hr hd
  have eM := hM.cell
  have lM := hM.lt
  have eR := hR.cell
  have lR := hR.lt
  go_wp2_with fail
  have hC := Whole.new w4 26 [.int .i64 cd.kind, .int .i64 cd.a, .int .i64 cd.b, .int .i64 cd.i, .int .i64 cd.n]
  have hf : Fr No w4 (w4.alloc (.cells ([.int .i64 cd.kind, .int .i64 cd.a, .int .i64 cd.b, .int .i64 cd.i, .int .i64 cd.n] : List Value).toArray 26)) := (Fr.refl _ _).alloc _
  replace hF := hF.trans hf
  replace hok := hok.no hf
  (replace hM := hf.whole hM (fun x => x))
  (replace hR := hf.whole hR (fun x => x))
  clear hf eM lM eR lR
  refine (do_out hlk ⟨8, 0, 0, 0, 0⟩ s0 s1 s2 s3 s4 s5 0 0 _ hok hcap).mono ?_
  rintro e w5 ⟨A2, n2, c2, Q2, k2, q2, t0, t1, t2, t3, t4, t5, v, x, m2, rfl, hlk2, hok2, hd2, hf⟩
  have key : (t0 = s0 ∧ t1 = s1 ∧ t2 = s2 ∧ t3 = s3 ∧ t4 = s4 ∧ t5 = s5 ∧ v = 0) ∧ m2.pure.objs.length = m.pure.objs.length ∧ ((lookP m.pure s0 = none ∧ m2.pure = m.pure ∧ x = 143) ∨ (∃ o, lookP m.pure s0 = some o ∧ o.freed = true ∧ m2.pure = m.pure ∧ x = 142) ∨ (∃ o, lookP m.pure s0 = some o ∧ o.freed = false ∧ m2.pure = frM m.pure s0 ∧ x = 0)) := by
    rw [fr_do hg] at hd2
    have h0 : [s0, s1, s2, s3, s4, s5].getD 0 0 = s0 := rfl
    rw [h0] at hd2
    cases hlo : lookP m.pure s0 with
    | none =>
      rw [hlo] at hd2
      simp only [Prod.mk.injEq, List.cons.injEq, and_true] at hd2
      obtain ⟨a1, ⟨a2, a3, a4, a5, a6, a7⟩, a8, a9⟩ := hd2
      exact ⟨⟨a2.symm, a3.symm, a4.symm, a5.symm, a6.symm, a7.symm, a8.symm⟩, by rw [a1], .inl ⟨rfl, a1.symm, a9.symm⟩⟩
    | some o =>
      rw [hlo] at hd2
      dsimp only at hd2
      cases hfr : o.freed with
      | true =>
        rw [if_pos hfr] at hd2
        simp only [Prod.mk.injEq, List.cons.injEq, and_true] at hd2
        obtain ⟨a1, ⟨a2, a3, a4, a5, a6, a7⟩, a8, a9⟩ := hd2
        exact ⟨⟨a2.symm, a3.symm, a4.symm, a5.symm, a6.symm, a7.symm, a8.symm⟩, by rw [a1], .inr (.inl ⟨o, rfl, hfr, a1.symm, a9.symm⟩)⟩
      | false =>
        rw [if_neg (by simp [hfr])] at hd2
        simp only [Prod.mk.injEq, List.cons.injEq, and_true] at hd2
        obtain ⟨a1, ⟨a2, a3, a4, a5, a6, a7⟩, a8, a9⟩ := hd2
        exact ⟨⟨a2.symm, a3.symm, a4.symm, a5.symm, a6.symm, a7.symm, a8.symm⟩, by rw [← a1]; simp [frM], .inr (.inr ⟨o, rfl, hfr, a1.symm, a9.symm⟩)⟩
  obtain ⟨⟨rfl, rfl, rfl, rfl, rfl, rfl, rfl⟩, hlen, hkey⟩ := key
  have hn2 : n2 = n1 := by
    obtain ⟨-, b1, -⟩ := hlk
    obtain ⟨-, b2, -⟩ := hlk2
    simp [RM.pure] at hlen
    omega
  have Hn2 := Lib.hid hn2
  clear hd2 hlen hn2
  (replace hM := hf.whole hM (fun x => x))
  (replace hR := hf.whole hR (fun x => x))
  (replace hC := hf.whole hC (fun x => x))
  replace hF := hF.trans hf
  replace hok := hok.no hf
  clear hf
  generalize w4.heap.size = gC at *
  have eM := hM.cell
  have lM := hM.lt
  have eR := hR.cell
  have lR := hR.lt
  go_wp2_with fail
  have hM2 := (Whole.new w5 29 [.slice A2 n2 c2, .slice Q2 k2 q2]).alloc (.cells ([.int .i64 t0, .int .i64 t1, .int .i64 t2, .int .i64 t3, .int .i64 t4, .int .i64 t5] : List Value).toArray 24)
  have hR2 := Whole.new1 w5 24 [.int .i64 t0, .int .i64 t1, .int .i64 t2, .int .i64 t3, .int .i64 t4, .int .i64 t5] (.cells ([.slice A2 n2 c2, .slice Q2 k2 q2] : List Value).toArray 29)
  have hf : Fr No w5 ((w5.alloc (.cells ([.slice A2 n2 c2, .slice Q2 k2 q2] : List Value).toArray 29)).alloc (.cells ([.int .i64 t0, .int .i64 t1, .int .i64 t2, .int .i64 t3, .int .i64 t4, .int .i64 t5] : List Value).toArray 24)) := ((Fr.refl _ _).alloc _).alloc _
  replace hF := hF.trans hf
  replace hok := hok.no hf
  replace hok2 := hok2.no hf
  (replace hM := hf.whole hM (fun x => x))
  (replace hR := hf.whole hR (fun x => x))
  (replace hC := hf.whole hC (fun x => x))
  clear hf eM lM eR lR
  refine (find_out hlk hg t0 _ hok).mono ?_
  rintro e w6 ⟨hf, hfind⟩
  (replace hM := hf.whole hM (fun x => x))
  (replace hR := hf.whole hR (fun x => x))
  (replace hC := hf.whole hC (fun x => x))
  (replace hM2 := hf.whole hM2 (fun x => x))
  (replace hR2 := hf.whole hR2 (fun x => x))
  replace hF := hF.trans hf
  replace hok := hok.no hf
  replace hok2 := hok2.no hf
  clear hf
  generalize w5.heap.size = gN at *
  generalize gN + 1 = gS at *
  have eM := hM.cell
  have lM := hM.lt
  have eR := hR.cell
  have lR := hR.lt
  have eM2 := hM2.cell
  have lM2 := hM2.lt
  have eR2 := hR2.cell
  have lR2 := hR2.lt
  have hsq := same_six t0 t1 t2 t3 t4 t5
  rcases hkey with ⟨hlo, hmp, rfl⟩ | ⟨o, hlo, hfr, hmp, rfl⟩ | ⟨o, hlo, hfr, hmp, rfl⟩
  · rcases hfind with ⟨-, rfl⟩ | ⟨o', pA, pc, nA, nc, ho, -⟩
    case inr => rw [hlo] at ho; cases ho
    have hdec : decide (m.pure = m2.pure) = true := by simp [hmp]
    go_wp2_with fail
    have hf : Fr No w6 (w6.alloc (.cells #[.int .i64 0, .int .i64 0, .int .i64 0, .bool false, .bool false, .slice none 0 0, .slice none 0 0, .bool false] 41)) := (Fr.refl _ _).alloc _
    refine (same_out hlk hlk2 _ (hok.no hf) (hok2.no hf)).mono ?_
    rintro e w7 ⟨rfl, hf7⟩
    rw [hdec]
    go_wp2_with fail
    go_ret
    exact ⟨rfl, (hF.trans hf).trans hf7⟩
  · rcases hfind with ⟨ho, -⟩ | ⟨o', pA, pc, nA, nc, ho, rfl, -⟩
    case inl => rw [hlo] at ho; cases ho
    rw [hlo] at ho
    injection ho with ho
    subst ho
    have hdec : decide (m.pure = m2.pure) = true := by simp [hmp]
    rw [hfr]
    have Hlo := Lib.hid (And.intro hlo hmp)
    clear hlo hmp hfr
    generalize o.ptrs.length = pl at *
    generalize o.nums.length = nl at *
    go_wp2_with fail
    have hf : Fr No w6 (w6.alloc (.cells #[.int .i64 o.serial, .int .i64 o.np, .int .i64 o.nd, .bool o.weak, .bool o.fin, .slice pA pl pc, .slice nA nl nc, .bool true] 41)) := (Fr.refl _ _).alloc _
    refine (same_out hlk hlk2 _ (hok.no hf) (hok2.no hf)).mono ?_
    rintro e w7 ⟨rfl, hf7⟩
    rw [hdec]
    go_wp2_with fail
    go_ret
    exact ⟨rfl, (hF.trans hf).trans hf7⟩
  · rcases hfind with ⟨ho, -⟩ | ⟨o', pA, pc, nA, nc, ho, rfl, -⟩
    case inl => rw [hlo] at ho; cases ho
    rw [hlo] at ho
    injection ho with ho
    subst ho
    have Hlaw := Lib.hid fun (hk : 4 ≤ cd.kind ∧ cd.kind ≤ 9) => freed_law hg hcr hk hlo [t0, t1, t2, t3, t4, t5] 0 9
    rw [← hmp] at Hlaw
    rw [hfr]
    clear hlo hmp hfr
    generalize o.ptrs.length = pl at *
    generalize o.nums.length = nl at *
    have hf : Fr No w6 (w6.alloc (.cells #[.int .i64 o.serial, .int .i64 o.np, .int .i64 o.nd, .bool o.weak, .bool o.fin, .slice pA pl pc, .slice nA nl nc, .bool false] 41)) := (Fr.refl _ _).alloc _
    have hFin := hF.trans hf
    have eC := hC.cell
    have lC := hC.lt
    have hkind := right_kind hcr
    have ha := right_a hcr
    have hb := fun hk => right_b hcr hk
    obtain ⟨ck, ca, cb, ci, cn⟩ := cd
    dsimp only at *
    have hk3 : (ck = 4 ∨ ck = 9) ∨ (ck = 5 ∨ ck = 6 ∨ ck = 7 ∨ ck = 8) ∨ (ck = 1 ∨ ck = 2 ∨ ck = 3 ∨ ck = 10 ∨ ck = 11 ∨ ck = 12 ∨ ck = 13 ∨ ck = 14) := by omega
    have hck := hcr
    clear hkind hcr
    rcases hk3 with hk | hk | hk
    · have hb := hb hk
      have hlaw := Hlaw.out (by omega)
      rw [show atP ⟨ck, ca, cb, ci, cn⟩ = cb from if_pos hk] at hlaw
      clear Hlaw hck hg
      obtain ⟨an, rfl⟩ := Int.eq_ofNat_of_zero_le hb.1
      have han : an < 6 := by have := hb.2; omega
      have hat := six_at t0 t1 t2 t3 t4 t5 han
      have e0 : ((an : Int)).toNat = an := by omega
      rw [e0] at hlaw
      clear e0
      generalize [t0, t1, t2, t3, t4, t5].getD an 0 = y at *
      have Hlaw := Lib.hid hlaw
      have Hat := Lib.hid hat
      clear hlaw hat ha hb
      rcases hk with rfl | rfl
      all_goals
        go_wp2_with fail
        refine (do_out hlk ⟨_, ca, (an : Int), ci, cn⟩ t0 t1 t2 t3 t4 t5 0 9 _ (hok.no hf) hcap).mono ?_
        rintro e w7 ⟨A3, n3, c3, Q3, k3, q3, u0, u1, u2, u3, u4, u5, v3, x3, m3, rfl, -, -, hd3, hf7⟩
        have hf67 := hf.trans hf7
        have iM2 := hf67.whole hM2 (fun x => x)
        have iR := hf67.whole hR (fun x => x)
        have iC := hf67.whole hC (fun x => x)
        have iok2 := hok2.no hf67
        have jM2 := iM2.cell
        have jR := iR.cell
        have jC := iC.cell
        have mM2 := iM2.lt
        have mR := iR.lt
        have mC := iC.lt
        have Hd3 := Lib.hid hd3
        clear hd3
        go_wp2_with fail
        have hf8 : Fr No w7 ((w7.alloc (.cells ([.slice A3 n3 c3, .slice Q3 k3 q3] : List Value).toArray 29)).alloc (.cells ([.int .i64 u0, .int .i64 u1, .int .i64 u2, .int .i64 u3, .int .i64 u4, .int .i64 u5] : List Value).toArray 24)) := ((Fr.refl _ _).alloc _).alloc _
        refine (do_out hlk2 ⟨_, ca, (an : Int), ci, cn⟩ t0 t1 t2 t3 t4 t5 0 9 _ (iok2.no hf8) (by rw [Hn2.out]; exact hcap)).mono ?_
        rintro e w8 ⟨A4, n4, c4, Q4, k4, q4, z0, z1, z2, z3, z4, z5, v4, x4, m4, rfl, -, -, hd4, hf9⟩
        have hvx := Hlaw.out
        rw [hd4, Hd3.out] at hvx
        dsimp only at hvx
        have hf89 := hf8.trans hf9
        have iR2 := hf89.whole iR (fun x => x)
        have kR0 : w8.cell? ⟨gR, 0, none⟩ = some (.int .i64 t0) := iR2.cell 0
        have kRa : w8.cell? ⟨gR, an, none⟩ = some (.int .i64 y) := (iR2.cell an).trans Hat.out
        have nR := iR2.lt
        have hend := (hFin.trans hf7).trans hf89
        have an0 : (0 : Int) ≤ (an : Int) := by omega
        have an6 : (an : Int) < 6 := by omega
        clear hd4 jM2 jR jC mM2 mR mC eM lM eR lR eM2 lM2 eR2 lR2 eC lC
        go_upto_region 25 with fail
        by_cases hy : y = t0
        · rw [if_pos hy] at hvx
          injection hvx with h1 h2
          subst h1 h2
          have hyb : (y == t0) = true := by simp [hy]
          clear hy
          go_quiet (fail)
          go_wp2_with fail
          go_ret
          exact ⟨rfl, ((hend.alloc _).alloc _).drewN _⟩
        · rw [if_neg hy] at hvx
          injection hvx with h1 h2
          subst h1 h2
          have hyb : (y == t0) = false := by simp [hy]
          clear hy
          go_quiet (fail)
          go_wp2_with fail
          go_ret
          exact ⟨rfl, ((hend.alloc _).alloc _).drewN _⟩
    · have hlaw := Hlaw.out (by omega)
      rw [show atP ⟨ck, ca, cb, ci, cn⟩ = ca from if_neg (by dsimp only; omega)] at hlaw
      clear Hlaw hck hg
      obtain ⟨an, rfl⟩ := Int.eq_ofNat_of_zero_le ha.1
      have han : an < 6 := by have := ha.2; omega
      have hat := six_at t0 t1 t2 t3 t4 t5 han
      have e0 : ((an : Int)).toNat = an := by omega
      rw [e0] at hlaw
      clear e0
      generalize [t0, t1, t2, t3, t4, t5].getD an 0 = y at *
      have Hlaw := Lib.hid hlaw
      have Hat := Lib.hid hat
      clear hlaw hat ha hb
      rcases hk with rfl | rfl | rfl | rfl
      all_goals
        go_wp2_with fail
        refine (do_out hlk ⟨_, (an : Int), cb, ci, cn⟩ t0 t1 t2 t3 t4 t5 0 9 _ (hok.no hf) hcap).mono ?_
        rintro e w7 ⟨A3, n3, c3, Q3, k3, q3, u0, u1, u2, u3, u4, u5, v3, x3, m3, rfl, -, -, hd3, hf7⟩
        have hf67 := hf.trans hf7
        have iM2 := hf67.whole hM2 (fun x => x)
        have iR := hf67.whole hR (fun x => x)
        have iC := hf67.whole hC (fun x => x)
        have iok2 := hok2.no hf67
        have jM2 := iM2.cell
        have jR := iR.cell
        have jC := iC.cell
        have mM2 := iM2.lt
        have mR := iR.lt
        have mC := iC.lt
        have Hd3 := Lib.hid hd3
        clear hd3
        go_wp2_with fail
        have hf8 : Fr No w7 ((w7.alloc (.cells ([.slice A3 n3 c3, .slice Q3 k3 q3] : List Value).toArray 29)).alloc (.cells ([.int .i64 u0, .int .i64 u1, .int .i64 u2, .int .i64 u3, .int .i64 u4, .int .i64 u5] : List Value).toArray 24)) := ((Fr.refl _ _).alloc _).alloc _
        refine (do_out hlk2 ⟨_, (an : Int), cb, ci, cn⟩ t0 t1 t2 t3 t4 t5 0 9 _ (iok2.no hf8) (by rw [Hn2.out]; exact hcap)).mono ?_
        rintro e w8 ⟨A4, n4, c4, Q4, k4, q4, z0, z1, z2, z3, z4, z5, v4, x4, m4, rfl, -, -, hd4, hf9⟩
        have hvx := Hlaw.out
        rw [hd4, Hd3.out] at hvx
        dsimp only at hvx
        have hf89 := hf8.trans hf9
        have iR2 := hf89.whole iR (fun x => x)
        have kR0 : w8.cell? ⟨gR, 0, none⟩ = some (.int .i64 t0) := iR2.cell 0
        have kRa : w8.cell? ⟨gR, an, none⟩ = some (.int .i64 y) := (iR2.cell an).trans Hat.out
        have nR := iR2.lt
        have hend := (hFin.trans hf7).trans hf89
        have an0 : (0 : Int) ≤ (an : Int) := by omega
        have an6 : (an : Int) < 6 := by omega
        clear hd4 jM2 jR jC mM2 mR mC eM lM eR lR eM2 lM2 eR2 lR2 eC lC
        go_upto_region 25 with fail
        by_cases hy : y = t0
        · rw [if_pos hy] at hvx
          injection hvx with h1 h2
          subst h1 h2
          have hyb : (y == t0) = true := by simp [hy]
          clear hy
          go_quiet (fail)
          go_wp2_with fail
          go_ret
          exact ⟨rfl, ((hend.alloc _).alloc _).drewN _⟩
        · rw [if_neg hy] at hvx
          injection hvx with h1 h2
          subst h1 h2
          have hyb : (y == t0) = false := by simp [hy]
          clear hy
          go_quiet (fail)
          go_wp2_with fail
          go_ret
          exact ⟨rfl, ((hend.alloc _).alloc _).drewN _⟩
    · have Hok := Lib.hid (And.intro hok hok2)
      clear hok hok2
      rcases hk with hk | hk | hk | hk | hk | hk | hk | hk
      all_goals
        go_wp2_with fail
        go_ret
        exact ⟨rfl, hFin⟩
end Go.Proofs.Ytbjknkgefpeohaa
