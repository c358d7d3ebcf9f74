/- ModelKeeps answers true: a deed changes one object at most, or lays one, or takes one item. Conditions: numbers of 64 bits. -/
import Derived.Test.YtbjknkgefpeohaaDoWr
import Derived.Test.YtbjknkgefpeohaaFreed
import Derived.Test.YtbjknkgefpeohaaLaw18c
import Derived.BigQuiet
import Derived.Deep.Cut
import Derived.Deep.CutRange
namespace Go.Proofs.Ytbjknkgefpeohaa
open Go.RowKit
attribute [local go_sem ↓] Go.wp_at_zero Go.wp_at_succ

theorem same_one (ra rb : RO) (w : World) (g g' : Nat) (ha : Whole w g 41 ra.cells) (hb : Whole w g' 41 rb.cells) (oa : ra.ok w) (ob : rb.ok w) :
    Calls Try.prog 13 #[.agg #[.slice (some ⟨g, 0, none⟩) 1 1, .slice none 0 0], .agg #[.slice (some ⟨g', 0, none⟩) 1 1, .slice none 0 0]] w fun e w' => e = .returned (.bool (decide (ra.o = rb.o))) ∧ Fr No w w' := by
  have one : ∀ (r : RO) g, Whole w g 41 r.cells → r.ok w → RM.ok w ⟨some ⟨g, 0, none⟩, 1, none, 0, [r], []⟩ := fun r g h1 h2 =>
    ⟨by have := Row.of_whole h1 8 1 rfl; simpa [rowOf] using this, by simpa using h2, Row.nil _ _ _ _, (by decide : 1 ≤ Cap), Nat.zero_le _⟩
  refine (same_calls ⟨some ⟨g, 0, none⟩, 1, none, 0, [ra], []⟩ ⟨some ⟨g', 0, none⟩, 1, none, 0, [rb], []⟩ w (one _ _ ha oa) (one _ _ hb ob)).mono ?_
  rintro e w' ⟨rfl, hf⟩
  exact ⟨by simp [RM.pure], hf⟩
theorem Lk.rows {m : RM} {A : Option Addr} {n c : Nat} {Q : Option Addr} {k qc : Nat} {w : World} (h : Lk m A n c Q k qc) (hok : m.ok w) : Row w 8 A n c (rowOf m.ros) ∧ Row w 2 Q k qc (itemVals m.qs) := by
  obtain ⟨rfl, rfl, rfl, rfl, rfl, rfl⟩ := h
  exact ⟨hok.row, hok.queue⟩

set_option maxRecDepth 4000 in
set_option maxHeartbeats 40000000 in
theorem keeps_calls (ros : List RO) (A : Option Addr) (c : Nat) (qs : List (Int × Int)) (B : Option Addr) (qc : Nat) (r0 r1 r2 r3 r4 r5 : Int) (d : PDeed) (seen : Int) (w : World) (hl : ros.length ≤ 9223372036854775807)
    (h : Row w 8 A ros.length c (rowOf ros)) (hraw : ∀ r ∈ ros, r.raw w) (hql : qs.length ≤ 9223372036854775807) (hq : Row w 2 B qs.length qc (itemVals qs)) (hqi : ∀ q ∈ qs, I64 q.1) (hr : ∀ x ∈ [r0, r1, r2, r3, r4, r5], I64 x) (hd : d.i64) (_hseen : I64 seen) :
    Calls Try.prog 3 #[.slice A ros.length c, .slice B qs.length qc, .agg #[.int .i64 r0, .int .i64 r1, .int .i64 r2, .int .i64 r3, .int .i64 r4, .int .i64 r5], .agg #[.int .i64 d.kind, .int .i64 d.a, .int .i64 d.b, .int .i64 d.i, .int .i64 d.n], .int .i64 seen] w
      fun e w' => e = .returned (.bool true) ∧ Fr No w w' := by
  have Hfit := Lib.hid fun W (hW : Fr No w W) => fit_out ros A c qs B qc W hl hql (h.no hW) (fun r hr => (hraw r hr).no hW) (hq.no hW) hqi
  clear h hraw hl hq hqi hql
  generalize ros.length = len at *
  generalize qs.length = qlen at *
  go_enter Try.func3, Try.ntmps3
  go_wp2_with fail
  have h4 := (Whole.new w 24 [.int .i64 r0, .int .i64 r1, .int .i64 r2, .int .i64 r3, .int .i64 r4, .int .i64 r5]).alloc (.cells ([.int .i64 d.kind, .int .i64 d.a, .int .i64 d.b, .int .i64 d.i, .int .i64 d.n] : List Value).toArray 26)
  have h5 := Whole.new1 w 26 [.int .i64 d.kind, .int .i64 d.a, .int .i64 d.b, .int .i64 d.i, .int .i64 d.n] (.cells ([.int .i64 r0, .int .i64 r1, .int .i64 r2, .int .i64 r3, .int .i64 r4, .int .i64 r5] : List Value).toArray 24)
  refine (awake_calls _).mono ?_
  rintro e w1 ⟨rfl, hf⟩
  (replace h4 := hf.whole h4 (fun x => x))
  (replace h5 := hf.whole h5 (fun x => x))
  have hF := (((Fr.refl No w).alloc _).alloc _).trans hf
  clear hf
  go_wp2_with fail
  refine (Hfit.out _ hF).mono ?_
  rintro e w2 ⟨A1, n1, c1, Q1, k1, q1, m, rfl, hlk, hok, hp, hn8, hf⟩
  (replace h4 := hf.whole h4 (fun x => x))
  (replace h5 := hf.whole h5 (fun x => x))
  replace hF := hF.trans hf
  clear hf
  generalize w.heap.size = g4 at *
  generalize g4 + 1 = g5 at *
  have e4 := h4.cell
  have l4 := h4.lt
  go_wp2_with fail
  have hM := Whole.new w2 29 [.slice A1 n1 c1, .slice Q1 k1 q1]
  have hf : Fr No w2 (w2.alloc (.cells ([.slice A1 n1 c1, .slice Q1 k1 q1] : List Value).toArray 29)) := (Fr.refl _ _).alloc _
  replace hF := hF.trans hf
  replace hok := hok.no hf
  (replace h5 := hf.whole h5 (fun x => x))
  clear hf h4 e4 l4
  refine (regs_out r0 r1 r2 r3 r4 r5 hr hn8 _).mono ?_
  rintro e w3 ⟨s0, s1, s2, s3, s4, s5, rfl, hs, hf⟩
  (replace hM := hf.whole hM (fun x => x))
  (replace h5 := hf.whole h5 (fun x => x))
  replace hF := hF.trans hf
  replace hok := hok.no hf
  clear hf
  generalize w2.heap.size = gM at *
  have e5 := h5.cell
  have l5 := h5.lt
  go_wp2_with fail
  have hR := Whole.new w3 24 [.int .i64 s0, .int .i64 s1, .int .i64 s2, .int .i64 s3, .int .i64 s4, .int .i64 s5]
  have hf : Fr No w3 (w3.alloc (.cells ([.int .i64 s0, .int .i64 s1, .int .i64 s2, .int .i64 s3, .int .i64 s4, .int .i64 s5] : List Value).toArray 24)) := (Fr.refl _ _).alloc _
  replace hF := hF.trans hf
  replace hok := hok.no hf
  (replace hM := hf.whole hM (fun x => x))
  clear hf h5 e5 l5
  refine (fit_15 d hd _).mono ?_
  rintro e w4 ⟨rfl, hf⟩
  (replace hM := hf.whole hM (fun x => x))
  (replace hR := hf.whole hR (fun x => x))
  replace hF := hF.trans hf
  replace hok := hok.no hf
  clear hf
  generalize w3.heap.size = gR at *
  have hcr := fit_right d
  generalize fitP d = cd at *
  have hg : Good m.pure := by rw [hp]; exact fit_good _ _
  have hcap : n1 + 1 ≤ Cap := Nat.le_trans (by omega : n1 + 1 ≤ 9) (by decide)
  have hlen1 := hlk.len
  have hk4 : k1 ≤ 4 := by
    obtain ⟨-, -, -, -, b1, -⟩ := hlk
    have h1 := congrArg (fun y => y.queue.length) hp
    simp only [RM.pure, fitM] at h1
    rw [← b1, h1]
    split
    · simp
    · simp; omega
  clear hp hs hr hd
  have eM := hM.cell
  have lM := hM.lt
  have eR := hR.cell
  have lR := hR.lt
  have hC := Whole.new w4 26 [.int .i64 cd.kind, .int .i64 cd.a, .int .i64 cd.b, .int .i64 cd.i, .int .i64 cd.n]
  have hf : Fr No w4 (w4.alloc (.cells ([.int .i64 cd.kind, .int .i64 cd.a, .int .i64 cd.b, .int .i64 cd.i, .int .i64 cd.n] : List Value).toArray 26)) := (Fr.refl _ _).alloc _
  have hw1 : IntKind.i64.wrap ((n1 : Int) + 1) = (n1 : Int) + 1 := IntWalk.i64_in _ (by omega)
  have Hlen1 := Lib.hid hlen1
  clear hlen1
  go_wp2_with fail
  refine (do_out hlk cd s0 s1 s2 s3 s4 s5 ((n1 : Int) + 1) seen _ (hok.no hf) hcap).mono ?_
  rintro e w5 ⟨A2, n2, c2, Q2, k2, q2, t0, t1, t2, t3, t4, t5, v, x, m2, rfl, hlk2, hok2, hd2, hf5⟩
  replace hF := hF.trans (hf.trans hf5)
  replace hok := hok.no (hf.trans hf5)
  replace hM := (hf.trans hf5).whole hM (fun x => x)
  replace hR := (hf.trans hf5).whole hR (fun x => x)
  replace hC := hf5.whole hC (fun x => x)
  clear hf hf5 eM lM eR lR
  generalize w4.heap.size = gC at *
  rw [Hlen1.out] at hd2
  have hkl := keeps_law hg hcr hd2
  clear hd2
  have hM2 := (Whole.new w5 29 [.slice A2 n2 c2, .slice Q2 k2 q2]).alloc (.cells ([.int .i64 t0, .int .i64 t1, .int .i64 t2, .int .i64 t3, .int .i64 t4, .int .i64 t5] : List Value).toArray 24)
  have hR2 := Whole.new1 w5 24 [.int .i64 t0, .int .i64 t1, .int .i64 t2, .int .i64 t3, .int .i64 t4, .int .i64 t5] (.cells ([.slice A2 n2 c2, .slice Q2 k2 q2] : List Value).toArray 29)
  have hf : Fr No w5 ((w5.alloc (.cells ([.slice A2 n2 c2, .slice Q2 k2 q2] : List Value).toArray 29)).alloc (.cells ([.int .i64 t0, .int .i64 t1, .int .i64 t2, .int .i64 t3, .int .i64 t4, .int .i64 t5] : List Value).toArray 24)) := ((Fr.refl _ _).alloc _).alloc _
  have eM := hM.cell
  have lM := hM.lt
  have eR := hR.cell
  have lR := hR.lt
  have eC := hC.cell
  have lC := hC.lt
  rcases hkl with ⟨hx, hmp, hts, hv⟩ | ⟨hx, hk⟩
  · simp only [List.cons.injEq, and_true] at hts
    obtain ⟨rfl, rfl, rfl, rfl, rfl, rfl⟩ := hts
    subst hv
    have hxb : (x != 0) = true := by simpa using hx
    have hdec : decide (m.pure = m2.pure) = true := by simp [hmp]
    have hsq := same_six t0 t1 t2 t3 t4 t5
    have hFx := hF.trans hf
    clear hx hmp
    go_wp2_with fail
    refine (same_out hlk hlk2 _ (hok.no hf) (hok2.no hf)).mono ?_
    rintro e w7 ⟨rfl, hf7⟩
    have hR7 := (hf.trans hf7).whole hR (fun x => x)
    have hS7 := hf7.whole hR2 (fun x => x)
    rw [hdec]
    clear eM lM eR lR eC lC
    generalize w5.heap.size = gN at *
    have eR := hR7.cell
    have lR := hR7.lt
    have eS := hS7.cell
    have lS := hS7.lt
    go_wp2_with fail
    go_ret
    exact ⟨rfl, hFx.trans hf7⟩
  · subst hx
    have hk12 := hlk2.len
    rw [hk.len, ← Hlen1.out] at hk12
    have Hk12 := Lib.hid hk12
    clear hk12
    obtain ⟨ck, ca, cb, ci, cn⟩ := cd
    dsimp only at hC eC Hk12 hk
    have hca := right_a hcr
    dsimp only at hca
    go_upto_region 8 with fail
    refine gen_world _ (fun X => Whole X gM 29 [.slice A1 n1 c1, .slice Q1 k1 q1] ∧ Whole X gR 24 [.int .i64 s0, .int .i64 s1, .int .i64 s2, .int .i64 s3, .int .i64 s4, .int .i64 s5] ∧ Whole X gC 26 [.int .i64 ck, .int .i64 ca, .int .i64 cb, .int .i64 ci, .int .i64 cn] ∧ Whole X w5.heap.size 29 [.slice A2 n2 c2, .slice Q2 k2 q2] ∧ Whole X (w5.heap.size + 1) 24 [.int .i64 t0, .int .i64 t1, .int .i64 t2, .int .i64 t3, .int .i64 t4, .int .i64 t5] ∧ m.ok X ∧ m2.ok X ∧ Fr No w X) ⟨hf.whole hM (fun x => x), hf.whole hR (fun x => x), hf.whole hC (fun x => x), hM2, hR2, hok.no hf, hok2.no hf, hF.trans hf⟩ ?_
    clear hM hR hC hM2 hR2 hok hok2 hF hf eM lM eR lR eC lC
    generalize w5.heap.size = gN at *
    generalize gN + 1 = gS at *
    rintro X ⟨hM, hR, hC, hM2, hR2, hok, hok2, hF⟩
    have eM := hM.cell
    have lM := hM.lt
    have eC := hC.cell
    have lC := hC.lt
    have eM2 := hM2.cell
    have lM2 := hM2.lt
    by_cases hlay : ck = 1 ∨ ck = 2 ∨ ck = 3
    · have hk12 := Hk12.out
      rw [if_pos hlay] at hk12
      obtain ⟨ol, hol, hser⟩ := hk.last hlay
      obtain ⟨rl, hrl, rfl⟩ : ∃ rl, m2.ros[n1]? = some rl ∧ rl.o = ol := by
        rw [← Hlen1.out] at hol
        simp only [RM.pure, List.getElem?_map, Option.map_eq_some_iff] at hol
        exact hol
      rw [← Hlen1.out] at hser
      obtain ⟨b2, o2, rfl, -, -⟩ := (hlk2.rows hok2).1.2.2 (by omega)
      have d0 : X.cell? ⟨b2, o2 + n1 * 8, none⟩ = some (.int .i64 ((n1 : Int) + 1)) := by
        have := obj_cells (hlk2.rows hok2).1 hrl 0 (by decide)
        rw [← hser]
        exact this
      have j1 : (n1 : Int) < (n2 : Int) := by omega
      have j2 : (0 : Int) ≤ (n1 : Int) := by omega
      have j3 : ((n2 : Int) != (n1 : Int) + 1) = false := by rw [bne_eq_false_iff_eq]; omega
      have hn12 : n1 ≤ n2 := by omega
      have Hser := Lib.hid hser
      have Hk := Lib.hid hk
      clear hk12 hser hk hol
      go_cut [19] from 72 to 84 (fun s wx => s = .bool true ∧ wx = X)
      case first =>
        clear Hk Hser
        rcases hlay with rfl | rfl | rfl
        all_goals
          go_wp2_with fail
          go_meet
          exact ⟨rfl, rfl⟩
      case rest =>
        obtain ⟨rfl, rfl⟩ := hcut
        go_upto_region 12 with fail
        go_quiet (fail)
        go_wp2_with fail
        refine gen_world _ (fun Y => Whole Y gM 29 [.slice A1 n1 c1, .slice Q1 k1 q1] ∧ Whole Y gR 24 [.int .i64 s0, .int .i64 s1, .int .i64 s2, .int .i64 s3, .int .i64 s4, .int .i64 s5] ∧ Whole Y gC 26 [.int .i64 ck, .int .i64 ca, .int .i64 cb, .int .i64 ci, .int .i64 cn] ∧ Whole Y gN 29 [.slice (some ⟨b2, o2, none⟩) n2 c2, .slice Q2 k2 q2] ∧ Whole Y gS 24 [.int .i64 t0, .int .i64 t1, .int .i64 t2, .int .i64 t3, .int .i64 t4, .int .i64 t5] ∧ m.ok Y ∧ m2.ok Y ∧ Fr No w Y) ⟨hM, hR, hC, hM2, hR2, hok.no ((Fr.refl _ _).drewN _), hok2.no ((Fr.refl _ _).drewN _), hF.drewN _⟩ ?_
        clear hM hR hC hM2 hR2 hok hok2 hF eM lM eC lC eM2 lM2
        rintro Y ⟨hM, hR, hC, hM2, hR2, hok, hok2, hF⟩
        have hrowA := (hlk.rows hok).1
        have hrowB := (hlk2.rows hok2).1
        have hrowQ := (hlk.rows hok).2
        have hone := cntD_one Hk.out.one
        rw [← Hlen1.out] at hone
        go_loopw [21, 22] (fun ch i wr => ∃ k : Nat, k ≤ n1 ∧ i = .int .i64 k ∧ ch = .int .i64 (cntD m.pure.objs m2.pure.objs k : Nat) ∧ Fr No Y wr) (fun _ i _ => n1 - (intOf i).toNat)
        case atStart => exact ⟨0, by omega, rfl, rfl, Fr.refl _ _⟩
        case round =>
          obtain ⟨k, hkn, rfl, rfl, hfr⟩ := hrel
          have hM7 := hfr.whole hM (fun x => x)
          have hN7 := hfr.whole hM2 (fun x => x)
          have eM := hM7.cell
          have lM := hM7.lt
          have i1 : (0 : Int) ≤ (k : Int) := by omega
          have hct := hone k hkn
          by_cases hlt : k < n1
          · have hlt1 : (k : Int) < (n1 : Int) := by omega
            have hlt2 : (k : Int) < (n2 : Int) := by omega
            obtain ⟨ra, hra⟩ : ∃ ra, m.ros[k]? = some ra := ⟨_, List.getElem?_eq_getElem (by have := Hlen1.out; simp [RM.pure] at this; omega)⟩
            obtain ⟨rb, hrb⟩ : ∃ rb, m2.ros[k]? = some rb := ⟨_, List.getElem?_eq_getElem (by have := hlk2.len; simp [RM.pure] at this; omega)⟩
            have hpa : m.pure.objs[k]? = some ra.o := by simp [RM.pure, hra]
            have hpb : m2.pure.objs[k]? = some rb.o := by simp [RM.pure, hrb]
            have hkept := Hk.out.kept k ra.o rb.o hpa hpb
            obtain ⟨b1, o1, rfl, hbl1, -⟩ := hrowA.2.2 (by omega)
            have hcsA := obj_cells (hrowA.no hfr) hra
            obtain ⟨bb2, oo2, hbb, hbl2, -⟩ := hrowB.2.2 (by omega)
            injection hbb with hbb; injection hbb with hbb1 hbb2
            subst hbb1 hbb2
            have hcsB := obj_cells (hrowB.no hfr) hrb
            have hoka := (hok.objs ra (List.mem_of_getElem? hra)).no hfr
            have hokb := (hok2.objs rb (List.mem_of_getElem? hrb)).no hfr
            obtain ⟨⟨s, p, d, wk, fi, ps, ns, fr⟩, P, N⟩ := ra
            obtain ⟨⟨s', p', d', wk', fi', ps', ns', fr'⟩, P', N'⟩ := rb
            obtain ⟨hq1, hq2, hq3, hq4, hq5, hq6⟩ := hkept
            dsimp only at hq1 hq2 hq3 hq4 hq5 hq6 hpa hpb
            subst hq1 hq2 hq3 hq4 hq5
            have hoka' := hoka
            have hokb' := hokb
            obtain ⟨pA, pc, nA, nc, e1, e2, -⟩ := hoka'
            obtain ⟨pA', pc', nA', nc', e1', e2', -⟩ := hokb'
            dsimp only at e1 e2 e1' e2'
            subst e1 e2 e1' e2'
            have d0 : wr.cell? ⟨b1, o1 + k * 8, none⟩ = some (.int .i64 s) := hcsA 0 (by decide)
            have d1 : wr.cell? ⟨b1, o1 + k * 8 + 1, none⟩ = some (.int .i64 p) := hcsA 1 (by decide)
            have d2 : wr.cell? ⟨b1, o1 + k * 8 + 2, none⟩ = some (.int .i64 d) := hcsA 2 (by decide)
            have d3 : wr.cell? ⟨b1, o1 + k * 8 + 3, none⟩ = some (.bool wk) := hcsA 3 (by decide)
            have d4 : wr.cell? ⟨b1, o1 + k * 8 + 4, none⟩ = some (.bool fi) := hcsA 4 (by decide)
            have d5 : wr.cell? ⟨b1, o1 + k * 8 + 5, none⟩ = some (.slice pA ps.length pc) := hcsA 5 (by decide)
            have d6 : wr.cell? ⟨b1, o1 + k * 8 + 6, none⟩ = some (.slice nA ns.length nc) := hcsA 6 (by decide)
            have d7 : wr.cell? ⟨b1, o1 + k * 8 + 7, none⟩ = some (.bool fr) := hcsA 7 (by decide)
            have f0 : wr.cell? ⟨b2, o2 + k * 8, none⟩ = some (.int .i64 s) := hcsB 0 (by decide)
            have f1 : wr.cell? ⟨b2, o2 + k * 8 + 1, none⟩ = some (.int .i64 p) := hcsB 1 (by decide)
            have f2 : wr.cell? ⟨b2, o2 + k * 8 + 2, none⟩ = some (.int .i64 d) := hcsB 2 (by decide)
            have f3 : wr.cell? ⟨b2, o2 + k * 8 + 3, none⟩ = some (.bool wk) := hcsB 3 (by decide)
            have f4 : wr.cell? ⟨b2, o2 + k * 8 + 4, none⟩ = some (.bool fi) := hcsB 4 (by decide)
            have f5 : wr.cell? ⟨b2, o2 + k * 8 + 5, none⟩ = some (.slice pA' ps'.length pc') := hcsB 5 (by decide)
            have f6 : wr.cell? ⟨b2, o2 + k * 8 + 6, none⟩ = some (.slice nA' ns'.length nc') := hcsB 6 (by decide)
            have f7 : wr.cell? ⟨b2, o2 + k * 8 + 7, none⟩ = some (.bool fr') := hcsB 7 (by decide)
            have eN := hN7.cell
            have lN := hN7.lt
            have lb1 : b1 < wr.heap.size := by have := hfr.size; omega
            have lb2 : b2 < wr.heap.size := by have := hfr.size; omega
            have hsuc : cntD m.pure.objs m2.pure.objs (k + 1) = cntD m.pure.objs m2.pure.objs k + if m.pure.objs[k]? = m2.pure.objs[k]? then 0 else 1 := rfl
            rw [hpa, hpb] at hsuc
            have Hsuc := Lib.hid hsuc
            have hfw : ∀ o1 o2 o3 o4, Fr No wr ((((wr.alloc o1).alloc o2).alloc o3).alloc o4) := fun o1 o2 o3 o4 => ((((Fr.refl _ _).alloc _).alloc _).alloc _).alloc _
            have Hso := Lib.hid (same_one ⟨⟨s, p, d, wk, fi, ps, ns, fr⟩, .slice pA ps.length pc, .slice nA ns.length nc⟩ ⟨⟨s, p, d, wk, fi, ps', ns', fr'⟩, .slice pA' ps'.length pc', .slice nA' ns'.length nc'⟩ ((((wr.alloc (.cells ([.int .i64 s, .int .i64 p, .int .i64 d, .bool wk, .bool fi, .slice pA ps.length pc, .slice nA ns.length nc, .bool fr] : List Value).toArray 41)).alloc (.cells ([.int .i64 s, .int .i64 p, .int .i64 d, .bool wk, .bool fi, .slice pA' ps'.length pc', .slice nA' ns'.length nc', .bool fr'] : List Value).toArray 41)).alloc (.cells ([.int .i64 s, .int .i64 p, .int .i64 d, .bool wk, .bool fi, .slice pA ps.length pc, .slice nA ns.length nc, .bool fr] : List Value).toArray 41)).alloc (.cells ([.int .i64 s, .int .i64 p, .int .i64 d, .bool wk, .bool fi, .slice pA' ps'.length pc', .slice nA' ns'.length nc', .bool fr'] : List Value).toArray 41)) (wr.heap.size + 1 + 1) (wr.heap.size + 1 + 1 + 1) ((Whole.new2 wr 41 [.int .i64 s, .int .i64 p, .int .i64 d, .bool wk, .bool fi, .slice pA ps.length pc, .slice nA ns.length nc, .bool fr] _ _).alloc _) (Whole.new3 wr 41 [.int .i64 s, .int .i64 p, .int .i64 d, .bool wk, .bool fi, .slice pA' ps'.length pc', .slice nA' ns'.length nc', .bool fr'] _ _ _) (hoka.no (hfw _ _ _ _)) (hokb.no (hfw _ _ _ _)))
            have hwc : IntKind.i64.wrap ((cntD m.pure.objs m2.pure.objs k : Int) + 1) = (cntD m.pure.objs m2.pure.objs k : Int) + 1 := IntWalk.i64_in _ (by omega)
            generalize cntD m.pure.objs m2.pure.objs k = ct at *
            clear hcsA hcsB hoka hokb hsuc hra hrb
            have hfin : ∀ o1 o2 o3 o4 Z, Fr No ((((wr.alloc o1).alloc o2).alloc o3).alloc o4) Z → Fr No Y Z := fun o1 o2 o3 o4 Z hZ => (hfr.trans (hfw _ _ _ _)).trans hZ
            have Hfin := Lib.hid hfin
            clear hfin hfw hpa hpb
            cases fr with
            | false =>
              go_wp2_with fail
              refine Hso.out.mono ?_
              rintro e z1 ⟨rfl, hfz⟩
              by_cases heq : (⟨s, p, d, wk, fi, ps, ns, false⟩ : PObj) = ⟨s, p, d, wk, fi, ps', ns', fr'⟩
              · rw [decide_eq_true heq]
                have hs2 := Hsuc.out
                rw [if_pos (by rw [heq])] at hs2
                have Hs2 := Lib.hid hs2
                clear hs2 heq
                go_wp2_with fail
                go_roundw
                case rel => exact ⟨k + 1, by omega, by go_num, by rw [Hs2.out]; rfl, Hfin.out _ _ _ _ _ hfz⟩
                case measure => simp [intOf]; omega
              · rw [decide_eq_false heq]
                have hs2 := Hsuc.out
                rw [if_neg (by intro h; injection h with h; exact heq h)] at hs2
                have Hs2 := Lib.hid hs2
                clear hs2 heq
                go_wp2_with fail
                go_roundw
                case rel => exact ⟨k + 1, by omega, by go_num, by rw [Hs2.out]; rfl, Hfin.out _ _ _ _ _ hfz⟩
                case measure => simp [intOf]; omega
            | true =>
              have hft : fr' = true := hq6 rfl
              subst hft
              go_wp2_with fail
              refine Hso.out.mono ?_
              rintro e z1 ⟨rfl, hfz⟩
              by_cases heq : (⟨s, p, d, wk, fi, ps, ns, true⟩ : PObj) = ⟨s, p, d, wk, fi, ps', ns', true⟩
              · rw [decide_eq_true heq]
                have hs2 := Hsuc.out
                rw [if_pos (by rw [heq])] at hs2
                have Hs2 := Lib.hid hs2
                clear hs2 heq
                go_wp2_with fail
                go_roundw
                case rel => exact ⟨k + 1, by omega, by go_num, by rw [Hs2.out]; rfl, Hfin.out _ _ _ _ _ hfz⟩
                case measure => simp [intOf]; omega
              · rw [decide_eq_false heq]
                have hs2 := Hsuc.out
                rw [if_neg (by intro h; injection h with h; exact heq h)] at hs2
                have Hs2 := Lib.hid hs2
                clear hs2 heq
                go_wp2_with fail
                go_roundw
                case rel => exact ⟨k + 1, by omega, by go_num, by rw [Hs2.out]; rfl, Hfin.out _ _ _ _ _ hfz⟩
                case measure => simp [intOf]; omega
          · have hkk : n1 = k := by omega
            subst hkk
            have hR7 := hfr.whole hR (fun x => x)
            have hS7 := hfr.whole hR2 (fun x => x)
            have hC7 := hfr.whole hC (fun x => x)
            have hFx := hF.trans hfr
            have Hq7 := Lib.hid (hrowQ.no hfr)
            have Hcz := Lib.hid (fun (he : m2.pure.objs = m.pure.objs) => (by rw [he]; exact cntD_same _ _ : cntD m.pure.objs m2.pure.objs n1 = 0))
            generalize cntD m.pure.objs m2.pure.objs n1 = ct at *
            obtain ⟨Z, hZ⟩ : ∃ x, x = wr := ⟨_, rfl⟩
            subst hZ
            clear hM hR hC hM2 hR2 hok hok2 hF hrowA hrowB hrowQ hone hkn hlt i1
            have eN := hN7.cell
            have lN := hN7.lt
            go_wp2_with fail
            clear eM lM eN lN
            go_loopw [25, 26] (fun ot i wr => ∃ j : Nat, j ≤ 6 ∧ i = .int .i64 j ∧ ot = .int .i64 0 ∧ Fr No Z wr) (fun _ i _ => 6 - (intOf i).toNat)
            case atStart => exact ⟨0, by omega, rfl, rfl, Fr.refl _ _⟩
            case round =>
              obtain ⟨j, hj, rfl, rfl, hfz⟩ := hrel
              have hR8 := hfz.whole hR7 (fun x => x)
              have hS8 := hfz.whole hS7 (fun x => x)
              have hC8 := hfz.whole hC7 (fun x => x)
              have i1 : (0 : Int) ≤ (j : Int) := by omega
              by_cases hj6 : j < 6
              · have j6 : (j : Int) < 6 := by omega
                have kR := (hR8.cell j).trans (six_at s0 s1 s2 s3 s4 s5 hj6)
                have kS := (hS8.cell j).trans (six_at t0 t1 t2 t3 t4 t5 hj6)
                have kC : wr.cell? ⟨gC, 1, none⟩ = some (.int .i64 ca) := hC8.cell 1
                have lR := hR8.lt
                have lS := hS8.lt
                have lC := hC8.lt
                have hreg : (j : Int) ≠ ca → [t0, t1, t2, t3, t4, t5].getD j 0 = [s0, s1, s2, s3, s4, s5].getD j 0 := fun hn => by
                  rw [List.getD_eq_getElem?_getD, List.getD_eq_getElem?_getD, Hk.out.regs j hn]
                generalize [s0, s1, s2, s3, s4, s5].getD j 0 = x at *
                generalize [t0, t1, t2, t3, t4, t5].getD j 0 = y at *
                by_cases hjc : (j : Int) = ca
                · have hb1 : ((j : Int) != ca) = false := by simp [hjc]
                  clear hreg
                  by_cases hxy : y = x
                  · have hb2 : (y != x) = false := by simp [hxy]
                    clear hjc hxy
                    go_wp2_with fail
                    go_quiet (fail)
                    go_wp2_with fail
                    go_roundw
                    case rel => exact ⟨j + 1, by omega, by go_num, rfl, hfz.drewN _⟩
                    case measure => simp [intOf]; omega
                  · have hb2 : (y != x) = true := by simpa using hxy
                    clear hjc hxy
                    go_wp2_with fail
                    go_quiet (fail)
                    go_wp2_with fail
                    go_roundw
                    case rel => exact ⟨j + 1, by omega, by go_num, rfl, hfz.drewN _⟩
                    case measure => simp [intOf]; omega
                · have hxy := hreg hjc
                  have hb2 : (y != x) = false := by simp [hxy]
                  clear hreg hjc hxy
                  go_wp2_with fail
                  go_quiet (fail)
                  go_wp2_with fail
                  go_roundw
                  case rel => exact ⟨j + 1, by omega, by go_num, rfl, hfz.drewN _⟩
                  case measure => simp [intOf]; omega
              · have hj6' : j = 6 := by omega
                subst hj6'
                have hM8 := hfz.whole hM7 (fun x => x)
                have hN8 := hfz.whole hN7 (fun x => x)
                have eM := hM8.cell
                have lM := hM8.lt
                have eN := hN8.cell
                have lN := hN8.lt
                have eC := hC8.cell
                have lC := hC8.lt
                have hend := hFx.trans hfz
                have hct1 : (ct : Int) ≤ 1 := by omega
                have q1l : k1 = m.pure.queue.length := by obtain ⟨-, -, -, -, b, -⟩ := hlk; simp [RM.pure, b]
                have q2l : k2 = m2.pure.queue.length := by obtain ⟨-, -, -, -, b, -⟩ := hlk2; simp [RM.pure, b]
                rcases Hk.out.queue with hqs | ⟨h10, hob, q, hqq, hvq⟩
                · rw [hqs, ← q1l] at q2l
                  have hw : IntKind.i64.wrap ((k1 : Int) - (k2 : Int)) = 0 := by rw [IntWalk.i64_in _ (by omega)]; omega
                  clear hqs q1l q2l
                  go_wp2_with fail
                  go_ret
                  exact ⟨rfl, hend⟩
                · have hc0 := Hcz.out hob
                  have hqll := items_len _ _ _ hqq
                  rw [← q1l, ← q2l] at hqll
                  have hw : IntKind.i64.wrap ((k1 : Int) - (k2 : Int)) = 1 := by rw [IntWalk.i64_in _ (by omega)]; omega
                  exfalso
                  dsimp only at h10
                  omega
    · have hk12 := Hk12.out
      rw [if_neg hlay] at hk12
      have hn12 : n1 ≤ n2 := by omega
      have j3 : ((n2 : Int) != (n1 : Int)) = false := by rw [bne_eq_false_iff_eq]; omega
      have z1 : (ck == 1) = false := by rw [beq_eq_false_iff_ne]; omega
      have z2 : (ck == 2) = false := by rw [beq_eq_false_iff_ne]; omega
      have z3 : (ck == 3) = false := by rw [beq_eq_false_iff_ne]; omega
      have Hk := Lib.hid hk
      clear hk12 hk
      go_upto_region 12 with fail
      go_quiet (fail)
      go_wp2_with fail
      refine gen_world _ (fun Y => Whole Y gM 29 [.slice A1 n1 c1, .slice Q1 k1 q1] ∧ Whole Y gR 24 [.int .i64 s0, .int .i64 s1, .int .i64 s2, .int .i64 s3, .int .i64 s4, .int .i64 s5] ∧ Whole Y gC 26 [.int .i64 ck, .int .i64 ca, .int .i64 cb, .int .i64 ci, .int .i64 cn] ∧ Whole Y gN 29 [.slice A2 n2 c2, .slice Q2 k2 q2] ∧ Whole Y gS 24 [.int .i64 t0, .int .i64 t1, .int .i64 t2, .int .i64 t3, .int .i64 t4, .int .i64 t5] ∧ m.ok Y ∧ m2.ok Y ∧ Fr No w Y) ⟨hM, hR, hC, hM2, hR2, hok.no ((Fr.refl _ _).drewN _), hok2.no ((Fr.refl _ _).drewN _), hF.drewN _⟩ ?_
      clear hM hR hC hM2 hR2 hok hok2 hF eM lM eC lC eM2 lM2
      rintro Y ⟨hM, hR, hC, hM2, hR2, hok, hok2, hF⟩
      have hrowA := (hlk.rows hok).1
      have hrowB := (hlk2.rows hok2).1
      have hrowQ := (hlk.rows hok).2
      have hone := cntD_one Hk.out.one
      rw [← Hlen1.out] at hone
      go_loopw [21, 22] (fun ch i wr => ∃ k : Nat, k ≤ n1 ∧ i = .int .i64 k ∧ ch = .int .i64 (cntD m.pure.objs m2.pure.objs k : Nat) ∧ Fr No Y wr) (fun _ i _ => n1 - (intOf i).toNat)
      case atStart => exact ⟨0, by omega, rfl, rfl, Fr.refl _ _⟩
      case round =>
        obtain ⟨k, hkn, rfl, rfl, hfr⟩ := hrel
        have hM7 := hfr.whole hM (fun x => x)
        have hN7 := hfr.whole hM2 (fun x => x)
        have eM := hM7.cell
        have lM := hM7.lt
        have i1 : (0 : Int) ≤ (k : Int) := by omega
        have hct := hone k hkn
        by_cases hlt : k < n1
        · have hlt1 : (k : Int) < (n1 : Int) := by omega
          have hlt2 : (k : Int) < (n2 : Int) := by omega
          obtain ⟨ra, hra⟩ : ∃ ra, m.ros[k]? = some ra := ⟨_, List.getElem?_eq_getElem (by have := Hlen1.out; simp [RM.pure] at this; omega)⟩
          obtain ⟨rb, hrb⟩ : ∃ rb, m2.ros[k]? = some rb := ⟨_, List.getElem?_eq_getElem (by have := hlk2.len; simp [RM.pure] at this; omega)⟩
          have hpa : m.pure.objs[k]? = some ra.o := by simp [RM.pure, hra]
          have hpb : m2.pure.objs[k]? = some rb.o := by simp [RM.pure, hrb]
          have hkept := Hk.out.kept k ra.o rb.o hpa hpb
          obtain ⟨b1, o1, rfl, hbl1, -⟩ := hrowA.2.2 (by omega)
          have hcsA := obj_cells (hrowA.no hfr) hra
          obtain ⟨b2, o2, rfl, hbl2, -⟩ := hrowB.2.2 (by omega)
          have hcsB := obj_cells (hrowB.no hfr) hrb
          have hoka := (hok.objs ra (List.mem_of_getElem? hra)).no hfr
          have hokb := (hok2.objs rb (List.mem_of_getElem? hrb)).no hfr
          obtain ⟨⟨s, p, d, wk, fi, ps, ns, fr⟩, P, N⟩ := ra
          obtain ⟨⟨s', p', d', wk', fi', ps', ns', fr'⟩, P', N'⟩ := rb
          obtain ⟨hq1, hq2, hq3, hq4, hq5, hq6⟩ := hkept
          dsimp only at hq1 hq2 hq3 hq4 hq5 hq6 hpa hpb
          subst hq1 hq2 hq3 hq4 hq5
          have hoka' := hoka
          have hokb' := hokb
          obtain ⟨pA, pc, nA, nc, e1, e2, -⟩ := hoka'
          obtain ⟨pA', pc', nA', nc', e1', e2', -⟩ := hokb'
          dsimp only at e1 e2 e1' e2'
          subst e1 e2 e1' e2'
          have d0 : wr.cell? ⟨b1, o1 + k * 8, none⟩ = some (.int .i64 s) := hcsA 0 (by decide)
          have d1 : wr.cell? ⟨b1, o1 + k * 8 + 1, none⟩ = some (.int .i64 p) := hcsA 1 (by decide)
          have d2 : wr.cell? ⟨b1, o1 + k * 8 + 2, none⟩ = some (.int .i64 d) := hcsA 2 (by decide)
          have d3 : wr.cell? ⟨b1, o1 + k * 8 + 3, none⟩ = some (.bool wk) := hcsA 3 (by decide)
          have d4 : wr.cell? ⟨b1, o1 + k * 8 + 4, none⟩ = some (.bool fi) := hcsA 4 (by decide)
          have d5 : wr.cell? ⟨b1, o1 + k * 8 + 5, none⟩ = some (.slice pA ps.length pc) := hcsA 5 (by decide)
          have d6 : wr.cell? ⟨b1, o1 + k * 8 + 6, none⟩ = some (.slice nA ns.length nc) := hcsA 6 (by decide)
          have d7 : wr.cell? ⟨b1, o1 + k * 8 + 7, none⟩ = some (.bool fr) := hcsA 7 (by decide)
          have f0 : wr.cell? ⟨b2, o2 + k * 8, none⟩ = some (.int .i64 s) := hcsB 0 (by decide)
          have f1 : wr.cell? ⟨b2, o2 + k * 8 + 1, none⟩ = some (.int .i64 p) := hcsB 1 (by decide)
          have f2 : wr.cell? ⟨b2, o2 + k * 8 + 2, none⟩ = some (.int .i64 d) := hcsB 2 (by decide)
          have f3 : wr.cell? ⟨b2, o2 + k * 8 + 3, none⟩ = some (.bool wk) := hcsB 3 (by decide)
          have f4 : wr.cell? ⟨b2, o2 + k * 8 + 4, none⟩ = some (.bool fi) := hcsB 4 (by decide)
          have f5 : wr.cell? ⟨b2, o2 + k * 8 + 5, none⟩ = some (.slice pA' ps'.length pc') := hcsB 5 (by decide)
          have f6 : wr.cell? ⟨b2, o2 + k * 8 + 6, none⟩ = some (.slice nA' ns'.length nc') := hcsB 6 (by decide)
          have f7 : wr.cell? ⟨b2, o2 + k * 8 + 7, none⟩ = some (.bool fr') := hcsB 7 (by decide)
          have eN := hN7.cell
          have lN := hN7.lt
          have lb1 : b1 < wr.heap.size := by have := hfr.size; omega
          have lb2 : b2 < wr.heap.size := by have := hfr.size; omega
          have hsuc : cntD m.pure.objs m2.pure.objs (k + 1) = cntD m.pure.objs m2.pure.objs k + if m.pure.objs[k]? = m2.pure.objs[k]? then 0 else 1 := rfl
          rw [hpa, hpb] at hsuc
          have Hsuc := Lib.hid hsuc
          have hfw : ∀ o1 o2 o3 o4, Fr No wr ((((wr.alloc o1).alloc o2).alloc o3).alloc o4) := fun o1 o2 o3 o4 => ((((Fr.refl _ _).alloc _).alloc _).alloc _).alloc _
          have Hso := Lib.hid (same_one ⟨⟨s, p, d, wk, fi, ps, ns, fr⟩, .slice pA ps.length pc, .slice nA ns.length nc⟩ ⟨⟨s, p, d, wk, fi, ps', ns', fr'⟩, .slice pA' ps'.length pc', .slice nA' ns'.length nc'⟩ ((((wr.alloc (.cells ([.int .i64 s, .int .i64 p, .int .i64 d, .bool wk, .bool fi, .slice pA ps.length pc, .slice nA ns.length nc, .bool fr] : List Value).toArray 41)).alloc (.cells ([.int .i64 s, .int .i64 p, .int .i64 d, .bool wk, .bool fi, .slice pA' ps'.length pc', .slice nA' ns'.length nc', .bool fr'] : List Value).toArray 41)).alloc (.cells ([.int .i64 s, .int .i64 p, .int .i64 d, .bool wk, .bool fi, .slice pA ps.length pc, .slice nA ns.length nc, .bool fr] : List Value).toArray 41)).alloc (.cells ([.int .i64 s, .int .i64 p, .int .i64 d, .bool wk, .bool fi, .slice pA' ps'.length pc', .slice nA' ns'.length nc', .bool fr'] : List Value).toArray 41)) (wr.heap.size + 1 + 1) (wr.heap.size + 1 + 1 + 1) ((Whole.new2 wr 41 [.int .i64 s, .int .i64 p, .int .i64 d, .bool wk, .bool fi, .slice pA ps.length pc, .slice nA ns.length nc, .bool fr] _ _).alloc _) (Whole.new3 wr 41 [.int .i64 s, .int .i64 p, .int .i64 d, .bool wk, .bool fi, .slice pA' ps'.length pc', .slice nA' ns'.length nc', .bool fr'] _ _ _) (hoka.no (hfw _ _ _ _)) (hokb.no (hfw _ _ _ _)))
          have hwc : IntKind.i64.wrap ((cntD m.pure.objs m2.pure.objs k : Int) + 1) = (cntD m.pure.objs m2.pure.objs k : Int) + 1 := IntWalk.i64_in _ (by omega)
          generalize cntD m.pure.objs m2.pure.objs k = ct at *
          clear hcsA hcsB hoka hokb hsuc hra hrb
          have hfin : ∀ o1 o2 o3 o4 Z, Fr No ((((wr.alloc o1).alloc o2).alloc o3).alloc o4) Z → Fr No Y Z := fun o1 o2 o3 o4 Z hZ => (hfr.trans (hfw _ _ _ _)).trans hZ
          have Hfin := Lib.hid hfin
          clear hfin hfw hpa hpb
          cases fr with
          | false =>
            go_wp2_with fail
            refine Hso.out.mono ?_
            rintro e z1 ⟨rfl, hfz⟩
            by_cases heq : (⟨s, p, d, wk, fi, ps, ns, false⟩ : PObj) = ⟨s, p, d, wk, fi, ps', ns', fr'⟩
            · rw [decide_eq_true heq]
              have hs2 := Hsuc.out
              rw [if_pos (by rw [heq])] at hs2
              have Hs2 := Lib.hid hs2
              clear hs2 heq
              go_wp2_with fail
              go_roundw
              case rel => exact ⟨k + 1, by omega, by go_num, by rw [Hs2.out]; rfl, Hfin.out _ _ _ _ _ hfz⟩
              case measure => simp [intOf]; omega
            · rw [decide_eq_false heq]
              have hs2 := Hsuc.out
              rw [if_neg (by intro h; injection h with h; exact heq h)] at hs2
              have Hs2 := Lib.hid hs2
              clear hs2 heq
              go_wp2_with fail
              go_roundw
              case rel => exact ⟨k + 1, by omega, by go_num, by rw [Hs2.out]; rfl, Hfin.out _ _ _ _ _ hfz⟩
              case measure => simp [intOf]; omega
          | true =>
            have hft : fr' = true := hq6 rfl
            subst hft
            go_wp2_with fail
            refine Hso.out.mono ?_
            rintro e z1 ⟨rfl, hfz⟩
            by_cases heq : (⟨s, p, d, wk, fi, ps, ns, true⟩ : PObj) = ⟨s, p, d, wk, fi, ps', ns', true⟩
            · rw [decide_eq_true heq]
              have hs2 := Hsuc.out
              rw [if_pos (by rw [heq])] at hs2
              have Hs2 := Lib.hid hs2
              clear hs2 heq
              go_wp2_with fail
              go_roundw
              case rel => exact ⟨k + 1, by omega, by go_num, by rw [Hs2.out]; rfl, Hfin.out _ _ _ _ _ hfz⟩
              case measure => simp [intOf]; omega
            · rw [decide_eq_false heq]
              have hs2 := Hsuc.out
              rw [if_neg (by intro h; injection h with h; exact heq h)] at hs2
              have Hs2 := Lib.hid hs2
              clear hs2 heq
              go_wp2_with fail
              go_roundw
              case rel => exact ⟨k + 1, by omega, by go_num, by rw [Hs2.out]; rfl, Hfin.out _ _ _ _ _ hfz⟩
              case measure => simp [intOf]; omega
        · have hkk : n1 = k := by omega
          subst hkk
          have hR7 := hfr.whole hR (fun x => x)
          have hS7 := hfr.whole hR2 (fun x => x)
          have hC7 := hfr.whole hC (fun x => x)
          have hFx := hF.trans hfr
          have Hq7 := Lib.hid (hrowQ.no hfr)
          have Hcz := Lib.hid (fun (he : m2.pure.objs = m.pure.objs) => (by rw [he]; exact cntD_same _ _ : cntD m.pure.objs m2.pure.objs n1 = 0))
          generalize cntD m.pure.objs m2.pure.objs n1 = ct at *
          obtain ⟨Z, hZ⟩ : ∃ x, x = wr := ⟨_, rfl⟩
          subst hZ
          clear hM hR hC hM2 hR2 hok hok2 hF hrowA hrowB hrowQ hone hkn hlt i1
          have eN := hN7.cell
          have lN := hN7.lt
          go_wp2_with fail
          clear eM lM eN lN
          go_loopw [25, 26] (fun ot i wr => ∃ j : Nat, j ≤ 6 ∧ i = .int .i64 j ∧ ot = .int .i64 0 ∧ Fr No Z wr) (fun _ i _ => 6 - (intOf i).toNat)
          case atStart => exact ⟨0, by omega, rfl, rfl, Fr.refl _ _⟩
          case round =>
            obtain ⟨j, hj, rfl, rfl, hfz⟩ := hrel
            have hR8 := hfz.whole hR7 (fun x => x)
            have hS8 := hfz.whole hS7 (fun x => x)
            have hC8 := hfz.whole hC7 (fun x => x)
            have i1 : (0 : Int) ≤ (j : Int) := by omega
            by_cases hj6 : j < 6
            · have j6 : (j : Int) < 6 := by omega
              have kR := (hR8.cell j).trans (six_at s0 s1 s2 s3 s4 s5 hj6)
              have kS := (hS8.cell j).trans (six_at t0 t1 t2 t3 t4 t5 hj6)
              have kC : wr.cell? ⟨gC, 1, none⟩ = some (.int .i64 ca) := hC8.cell 1
              have lR := hR8.lt
              have lS := hS8.lt
              have lC := hC8.lt
              have hreg : (j : Int) ≠ ca → [t0, t1, t2, t3, t4, t5].getD j 0 = [s0, s1, s2, s3, s4, s5].getD j 0 := fun hn => by
                rw [List.getD_eq_getElem?_getD, List.getD_eq_getElem?_getD, Hk.out.regs j hn]
              generalize [s0, s1, s2, s3, s4, s5].getD j 0 = x at *
              generalize [t0, t1, t2, t3, t4, t5].getD j 0 = y at *
              by_cases hjc : (j : Int) = ca
              · have hb1 : ((j : Int) != ca) = false := by simp [hjc]
                clear hreg
                by_cases hxy : y = x
                · have hb2 : (y != x) = false := by simp [hxy]
                  clear hjc hxy
                  go_wp2_with fail
                  go_quiet (fail)
                  go_wp2_with fail
                  go_roundw
                  case rel => exact ⟨j + 1, by omega, by go_num, rfl, hfz.drewN _⟩
                  case measure => simp [intOf]; omega
                · have hb2 : (y != x) = true := by simpa using hxy
                  clear hjc hxy
                  go_wp2_with fail
                  go_quiet (fail)
                  go_wp2_with fail
                  go_roundw
                  case rel => exact ⟨j + 1, by omega, by go_num, rfl, hfz.drewN _⟩
                  case measure => simp [intOf]; omega
              · have hxy := hreg hjc
                have hb2 : (y != x) = false := by simp [hxy]
                clear hreg hjc hxy
                go_wp2_with fail
                go_quiet (fail)
                go_wp2_with fail
                go_roundw
                case rel => exact ⟨j + 1, by omega, by go_num, rfl, hfz.drewN _⟩
                case measure => simp [intOf]; omega
            · have hj6' : j = 6 := by omega
              subst hj6'
              have hM8 := hfz.whole hM7 (fun x => x)
              have hN8 := hfz.whole hN7 (fun x => x)
              have eM := hM8.cell
              have lM := hM8.lt
              have eN := hN8.cell
              have lN := hN8.lt
              have eC := hC8.cell
              have lC := hC8.lt
              have hend := hFx.trans hfz
              have hct1 : (ct : Int) ≤ 1 := by omega
              have q1l : k1 = m.pure.queue.length := by obtain ⟨-, -, -, -, b, -⟩ := hlk; simp [RM.pure, b]
              have q2l : k2 = m2.pure.queue.length := by obtain ⟨-, -, -, -, b, -⟩ := hlk2; simp [RM.pure, b]
              rcases Hk.out.queue with hqs | ⟨h10, hob, q, hqq, hvq⟩
              · rw [hqs, ← q1l] at q2l
                have hw : IntKind.i64.wrap ((k1 : Int) - (k2 : Int)) = 0 := by rw [IntWalk.i64_in _ (by omega)]; omega
                clear hqs q1l q2l
                go_wp2_with fail
                go_ret
                exact ⟨rfl, hend⟩
              · have hc0 := Hcz.out hob
                have hqll := items_len _ _ _ hqq
                rw [← q1l, ← q2l] at hqll
                have hw : IntKind.i64.wrap ((k1 : Int) - (k2 : Int)) = 1 := by rw [IntWalk.i64_in _ (by omega)]; omega
                dsimp only at h10
                have hm0 : m.qs[0]? = some q := by have : m.qs = q :: m2.pure.queue := hqq; rw [this]; rfl
                obtain ⟨qb, qo, rfl, hqb, hqc⟩ := (Hq7.out.no hfz).2.2 (by omega)
                have hcq : wr.cell? ⟨qb, qo, none⟩ = some (.int .i64 q.1) := by simpa using hqc _ _ (itemVals_get m.qs 0 q hm0).1
                have hk10 : (0 : Int) < (k1 : Int) := by omega
                have hb1 : (q.1 == q.1) = true := by simp
                have hlq : qb < wr.heap.size := hqb
                subst hvq hc0 h10
                generalize q.1 = q1v at *
                clear hqll q1l q2l hqq hm0 hqc
                go_wp2_with fail
                go_ret
                exact ⟨rfl, hend⟩
end Go.Proofs.Ytbjknkgefpeohaa
