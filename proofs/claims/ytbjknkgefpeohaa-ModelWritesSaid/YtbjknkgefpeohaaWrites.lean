/- ModelWrites answers true: what was written is read, what was put is got. Conditions: numbers of 64 bits. -/
import Derived.Test.YtbjknkgefpeohaaDoWr
import Derived.Test.YtbjknkgefpeohaaFreed
import Derived.BigQuiet
namespace Go.Proofs.Ytbjknkgefpeohaa
open Go.RowKit
attribute [local go_sem ↓] Go.wp_at_zero Go.wp_at_succ

/-- Reading behind a write. -/
theorem do_rd {m m2 : RM} {A : Option Addr} {n c : Nat} {Q : Option Addr} {k qc : Nat} (hl : Lk m2 A n c Q k qc) (hg : Good m.pure) (hn : n ≤ 8) (r0 r1 r2 r3 r4 r5 K V : Int) (hK : 0 ≤ K) (hp : m2.pure = wrM ⟨7, 0, 0, K, V⟩ m.pure [r0, r1, r2, r3, r4, r5]) {o : PObj} (ho : lookP m.pure r0 = some o) (he : wrE ⟨7, 0, 0, K, V⟩ m.pure [r0, r1, r2, r3, r4, r5] = 0)
    (j : Nat) (hj : j < o.nums.length) (h7 : j ≤ 7) (w : World) (h : m2.ok w) :
    Calls Try.prog 12 #[.agg #[.slice A n c, .slice Q k qc], .agg #[.int .i64 r0, .int .i64 r1, .int .i64 r2, .int .i64 r3, .int .i64 r4, .int .i64 r5], .agg #[.int .i64 6, .int .i64 0, .int .i64 0, .int .i64 j, .int .i64 0], .int .i64 0, .int .i64 0] w
      fun e w' => ∃ A' n' c' Q' k' qc', e = .returned (.tuple #[.agg #[.slice A' n' c', .slice Q' k' qc'], .agg #[.int .i64 r0, .int .i64 r1, .int .i64 r2, .int .i64 r3, .int .i64 r4, .int .i64 r5], .int .i64 (if (j : Int) = K then V else o.nums.getD j 0), .int .i64 0]) ∧ Fr No w w' := by
  refine (do_out hl ⟨6, 0, 0, j, 0⟩ r0 r1 r2 r3 r4 r5 0 0 w h (Nat.le_trans (by omega : n + 1 ≤ 9) (by decide))).mono ?_
  rintro e w' ⟨A', n', c', Q', k', qc', s0, s1, s2, s3, s4, s5, v, x, m', rfl, hl', hok, hd, hf⟩
  rw [hp, read_law (r := [r0, r1, r2, r3, r4, r5]) hg hK ho he j hj h7] at hd
  simp only [Prod.mk.injEq, List.cons.injEq, and_true] at hd
  obtain ⟨a1, ⟨rfl, rfl, rfl, rfl, rfl, rfl⟩, rfl, rfl⟩ := hd
  exact ⟨A', n', c', Q', k', qc', rfl, hf⟩
/-- Getting behind a put. -/
theorem do_gt {m m2 : RM} {A : Option Addr} {n c : Nat} {Q : Option Addr} {k qc : Nat} (hl : Lk m2 A n c Q k qc) (hg : Good m.pure) (hn : n ≤ 8) (r0 r1 r2 r3 r4 r5 K : Int) (hK : 0 ≤ K) (hK7 : K ≤ 7) (hp : m2.pure = wrM ⟨5, 0, 1, K, 0⟩ m.pure [r0, r1, r2, r3, r4, r5]) (he : wrE ⟨5, 0, 1, K, 0⟩ m.pure [r0, r1, r2, r3, r4, r5] = 0)
    (w : World) (h : m2.ok w) :
    Calls Try.prog 12 #[.agg #[.slice A n c, .slice Q k qc], .agg #[.int .i64 r0, .int .i64 r1, .int .i64 r2, .int .i64 r3, .int .i64 r4, .int .i64 r5], .agg #[.int .i64 4, .int .i64 5, .int .i64 0, .int .i64 K, .int .i64 0], .int .i64 0, .int .i64 0] w
      fun e w' => ∃ A' n' c' Q' k' qc', e = .returned (.tuple #[.agg #[.slice A' n' c', .slice Q' k' qc'], .agg #[.int .i64 r0, .int .i64 r1, .int .i64 r2, .int .i64 r3, .int .i64 r4, .int .i64 r1], .int .i64 r1, .int .i64 0]) ∧ Fr No w w' := by
  refine (do_out hl ⟨4, 5, 0, K, 0⟩ r0 r1 r2 r3 r4 r5 0 0 w h (Nat.le_trans (by omega : n + 1 ≤ 9) (by decide))).mono ?_
  rintro e w' ⟨A', n', c', Q', k', qc', s0, s1, s2, s3, s4, s5, v, x, m', rfl, hl', hok, hd, hf⟩
  rw [hp, get_law hg hK hK7 he] at hd
  have e1 : [r0, r1, r2, r3, r4, r5].set 5 ([r0, r1, r2, r3, r4, r5].getD 1 0) = [r0, r1, r2, r3, r4, r1] := rfl
  have e2 : [r0, r1, r2, r3, r4, r5].getD 1 0 = r1 := rfl
  rw [e1, e2] at hd
  simp only [Prod.mk.injEq, List.cons.injEq, and_true] at hd
  obtain ⟨a1, ⟨rfl, rfl, rfl, rfl, rfl, rfl⟩, rfl, rfl⟩ := hd
  exact ⟨A', n', c', Q', k', qc', rfl, hf⟩

set_option maxRecDepth 4000 in
set_option maxHeartbeats 40000000 in
theorem writes_calls (ros : List RO) (A : Option Addr) (c : Nat) (r0 r1 r2 r3 r4 r5 i n : Int) (w : World) (hl : ros.length ≤ 9223372036854775807)
    (h : Row w 8 A ros.length c (rowOf ros)) (hraw : ∀ r ∈ ros, r.raw w) (hr : ∀ x ∈ [r0, r1, r2, r3, r4, r5], I64 x) (hi : I64 i) (hn : I64 n) :
    Calls Try.prog 4 #[.slice A ros.length c, .agg #[.int .i64 r0, .int .i64 r1, .int .i64 r2, .int .i64 r3, .int .i64 r4, .int .i64 r5], .int .i64 i, .int .i64 n] w
      fun e w' => e = .returned (.bool true) ∧ Fr No w w' := by
  have Hfit := Lib.hid fun W (hW : Fr No w W) => fit_out ros A c [] none 0 W hl (by simp) (h.no hW) (fun r hr => (hraw r hr).no hW) (Row.nil _ _ _ _) (fun q hq => by cases hq)
  clear h hraw hl
  generalize ros.length = len at *
  obtain ⟨K0, K3⟩ := pickZ_bd i 4 (by decide)
  obtain ⟨V0, V3⟩ := pickZ_bd n 2000001 (by decide)
  have Hpi := Lib.hid fun W => pick_18 i 4 hi (by decide) (by decide) W
  have Hpn := Lib.hid fun W => pick_18 n 2000001 hn (by decide) (by decide) W
  generalize pickZ i 4 = K at *
  generalize pickZ n 2000001 = U at *
  have hwv : IntKind.i64.wrap (U - 1000000) = U - 1000000 := IntWalk.i64_in _ (by omega)
  have V1 : -1000000 ≤ U - 1000000 := by omega
  have V2 : U - 1000000 ≤ 1000000 := by omega
  go_enter Try.func4, Try.ntmps4
  go_wp2_with fail
  have h5 := Whole.new w 24 [.int .i64 r0, .int .i64 r1, .int .i64 r2, .int .i64 r3, .int .i64 r4, .int .i64 r5]
  refine (awake_calls _).mono ?_
  rintro e w1 ⟨rfl, hf⟩
  (replace h5 := hf.whole h5 (fun x => x))
  have hF := ((Fr.refl No w).alloc _).trans hf
  clear hf
  go_wp2_with fail
  refine (Hfit.out _ hF).mono ?_
  rintro e w2 ⟨A1, n1, c1, Q1, k1, q1, m, rfl, hlk, hok, hp, hn8, hf⟩
  (replace h5 := hf.whole h5 (fun x => x))
  replace hF := hF.trans hf
  clear hf
  generalize w.heap.size = g5 at *
  have e5 := h5.cell
  have l5 := h5.lt
  go_wp2_with fail
  have hM := Whole.new w2 29 [.slice A1 n1 c1, .slice Q1 k1 q1]
  have hf : Fr No w2 (w2.alloc (.cells ([.slice A1 n1 c1, .slice Q1 k1 q1] : List Value).toArray 29)) := (Fr.refl _ _).alloc _
  replace hF := hF.trans hf
  replace hok := hok.no hf
  clear hf h5 e5 l5
  refine (regs_out r0 r1 r2 r3 r4 r5 hr hn8 _).mono ?_
  rintro e w3 ⟨s0, s1, s2, s3, s4, s5, rfl, hs, hf⟩
  (replace hM := hf.whole hM (fun x => x))
  replace hF := hF.trans hf
  replace hok := hok.no hf
  clear hf hs hr
  generalize w2.heap.size = gM at *
  have eM := hM.cell
  have lM := hM.lt
  go_wp2_with (first | (go_at_call 14; with_reducible refine (Hpi.out _).mono ?_; rintro e w4 ⟨rfl, hw4⟩; subst hw4) | (go_at_call 14; with_reducible refine (Hpn.out _).mono ?_; rintro e w5 ⟨rfl, hw5⟩; subst hw5))
  generalize U - 1000000 = V at *
  have hR := Whole.new w3 24 [.int .i64 s0, .int .i64 s1, .int .i64 s2, .int .i64 s3, .int .i64 s4, .int .i64 s5]
  have hf : Fr No w3 (w3.alloc (.cells ([.int .i64 s0, .int .i64 s1, .int .i64 s2, .int .i64 s3, .int .i64 s4, .int .i64 s5] : List Value).toArray 24)) := (Fr.refl _ _).alloc _
  replace hF := hF.trans hf
  replace hok := hok.no hf
  (replace hM := hf.whole hM (fun x => x))
  clear hf eM lM hwv V0 V3
  have hg : Good m.pure := by rw [hp]; exact fit_good _ _
  have hsm : ∀ o ∈ m.pure.objs, o.ptrs.length ≤ 4 ∧ o.nums.length ≤ 4 := by rw [hp]; exact fit_small _ _
  have hrw := right_write K0 (by omega : K ≤ 7) V1 V2
  have hrp := right_put K0 (by omega : K ≤ 7)
  clear hp
  generalize hgR : w3.heap.size = gR at *
  refine (find_out hlk hg s0 _ hok).mono ?_
  rintro e w4 ⟨hf, hfind⟩
  (replace hM := hf.whole hM (fun x => x))
  (replace hR := hf.whole hR (fun x => x))
  replace hF := hF.trans hf
  replace hok := hok.no hf
  clear hf
  have eM := hM.cell
  have eR := hR.cell
  have lM := hM.lt
  have lR := hR.lt
  have codes : ∀ (d : PDeed) (o : PObj), wrX d [s0, s1, s2, s3, s4, s5] = s0 → lookP m.pure s0 = some o → wrE d m.pure [s0, s1, s2, s3, s4, s5] = if o.freed then 142 else if o.weak then 144 else if d.i ≥ cntP d o then 71 else 0 := by
    intro d o hx ho
    unfold wrE
    rw [hx, ho]
  rcases hfind with ⟨hno, rfl⟩ | ⟨o, pA, pc, nA, nc, ho, rfl, hrow⟩
  · have h1 : wrE ⟨7, 0, 0, K, V⟩ m.pure [s0, s1, s2, s3, s4, s5] = 143 := by unfold wrE; rw [show wrX ⟨7, 0, 0, K, V⟩ [s0, s1, s2, s3, s4, s5] = s0 from rfl, hno]
    have h2 : wrE ⟨5, 0, 1, K, 0⟩ m.pure [s0, s1, s2, s3, s4, s5] = 143 := by unfold wrE; rw [show wrX ⟨5, 0, 1, K, 0⟩ [s0, s1, s2, s3, s4, s5] = s0 from rfl, hno]
    have hO := Whole.new w4 41 [.int .i64 0, .int .i64 0, .int .i64 0, .bool false, .bool false, .slice none 0 0, .slice none 0 0, .bool false]
    have hf4 : Fr No w4 (w4.alloc (.cells ([.int .i64 0, .int .i64 0, .int .i64 0, .bool false, .bool false, .slice none 0 0, .slice none 0 0, .bool false] : List Value).toArray 41)) := (Fr.refl _ _).alloc _
    clear codes hno
    have hf5 := hf4
    go_wp2_with fail
    refine (do_wr hlk hg hn8 ⟨7, 0, 0, K, V⟩ hrw (.inr rfl) s0 s1 s2 s3 s4 s5 0 0 _ (hok.no hf4)).mono ?_
    rintro e w5 ⟨A2, n2, c2, Q2, k2, q2, m2, rfl, hlk2, hok2, hp2, hn2, hg2, hf5'⟩
    rw [h1]
    have hf45 := hf4.trans hf5'
    have hM5 := hf45.whole hM (fun x => x)
    have hR5 := hf45.whole hR (fun x => x)
    have hO5 := hf5'.whole hO (fun x => x)
    have hok5 := hok.no hf45
    clear hf5 eM eR lM lR
    generalize w4.heap.size = gO at *
    have eM := hM5.cell
    have eR := hR5.cell
    have lM := hM5.lt
    have lR := hR5.lt
    go_wp2_with fail
    have hN2 := (Whole.new w5 29 [.slice A2 n2 c2, .slice Q2 k2 q2]).alloc (.cells ([.int .i64 s0, .int .i64 s1, .int .i64 s2, .int .i64 s3, .int .i64 s4, .int .i64 s5] : List Value).toArray 24)
    have hf56 : Fr No w5 ((w5.alloc (.cells ([.slice A2 n2 c2, .slice Q2 k2 q2] : List Value).toArray 29)).alloc (.cells ([.int .i64 s0, .int .i64 s1, .int .i64 s2, .int .i64 s3, .int .i64 s4, .int .i64 s5] : List Value).toArray 24)) := ((Fr.refl _ _).alloc _).alloc _
    refine (do_wr hlk hg hn8 ⟨5, 0, 1, K, 0⟩ hrp (.inl rfl) s0 s1 s2 s3 s4 s5 0 0 _ (hok5.no hf56)).mono ?_
    rintro e w6 ⟨A3, n3, c3, Q3, k3, q3, m3, rfl, hlk3, hok3, hp3, hn3, hg3, hf6⟩
    rw [h2]
    have hf66 := hf56.trans hf6
    have hO6 := hf66.whole hO5 (fun x => x)
    have hR6 := hf66.whole hR5 (fun x => x)
    have hN6 := hf6.whole hN2 (fun x => x)
    have hok6 := hok2.no hf66
    have hFe := (hF.trans hf45).trans hf66
    clear eM eR lM lR
    generalize w5.heap.size = gN at *
    have eO := hO6.cell
    have lO := hO6.lt
    have eR := hR6.cell
    have lR := hR6.lt
    have eN := hN6.cell
    have lN := hN6.lt
    go_wp2_with fail
    go_ret
    exact ⟨rfl, (hFe.alloc _).alloc _⟩
  · have hsh := hg.shape o (mem_look ho)
    have hsm4 := hsm o (mem_look ho)
    have kq1 : wrE ⟨7, 0, 0, K, V⟩ m.pure [s0, s1, s2, s3, s4, s5] = if o.freed then 142 else if o.weak then 144 else if K ≥ (o.nums.length : Int) then 71 else 0 := codes ⟨7, 0, 0, K, V⟩ o rfl ho
    have kq2 : wrE ⟨5, 0, 1, K, 0⟩ m.pure [s0, s1, s2, s3, s4, s5] = if o.freed then 142 else if o.weak then 144 else if K ≥ (o.ptrs.length : Int) then 71 else 0 := codes ⟨5, 0, 1, K, 0⟩ o rfl ho
    rw [hsh.1, hsh.2]
    clear codes hsm hsh
    generalize hpl : o.ptrs.length = pl at *
    generalize hnl : o.nums.length = nl at *
    have hO := Whole.new w4 41 [.int .i64 o.serial, .int .i64 pl, .int .i64 nl, .bool o.weak, .bool o.fin, .slice pA pl pc, .slice nA nl nc, .bool o.freed]
    have hf4 : Fr No w4 (w4.alloc (.cells ([.int .i64 o.serial, .int .i64 pl, .int .i64 nl, .bool o.weak, .bool o.fin, .slice pA pl pc, .slice nA nl nc, .bool o.freed] : List Value).toArray 41)) := (Fr.refl _ _).alloc _
    cases hfr : o.freed with
    | true =>
      rw [hfr] at hO hf4 kq1 kq2
      have h1 : wrE ⟨7, 0, 0, K, V⟩ m.pure [s0, s1, s2, s3, s4, s5] = 142 := kq1
      have h2 : wrE ⟨5, 0, 1, K, 0⟩ m.pure [s0, s1, s2, s3, s4, s5] = 142 := kq2
      clear kq1 kq2 hrow ho hfr
      have hf5 := hf4
      go_wp2_with fail
      refine (do_wr hlk hg hn8 ⟨7, 0, 0, K, V⟩ hrw (.inr rfl) s0 s1 s2 s3 s4 s5 0 0 _ (hok.no hf4)).mono ?_
      rintro e w5 ⟨A2, n2, c2, Q2, k2, q2, m2, rfl, hlk2, hok2, hp2, hn2, hg2, hf5'⟩
      rw [h1]
      have hf45 := hf4.trans hf5'
      have hM5 := hf45.whole hM (fun x => x)
      have hR5 := hf45.whole hR (fun x => x)
      have hO5 := hf5'.whole hO (fun x => x)
      have hok5 := hok.no hf45
      clear hf5 eM eR lM lR
      generalize w4.heap.size = gO at *
      have eM := hM5.cell
      have eR := hR5.cell
      have lM := hM5.lt
      have lR := hR5.lt
      go_wp2_with fail
      have hN2 := (Whole.new w5 29 [.slice A2 n2 c2, .slice Q2 k2 q2]).alloc (.cells ([.int .i64 s0, .int .i64 s1, .int .i64 s2, .int .i64 s3, .int .i64 s4, .int .i64 s5] : List Value).toArray 24)
      have hf56 : Fr No w5 ((w5.alloc (.cells ([.slice A2 n2 c2, .slice Q2 k2 q2] : List Value).toArray 29)).alloc (.cells ([.int .i64 s0, .int .i64 s1, .int .i64 s2, .int .i64 s3, .int .i64 s4, .int .i64 s5] : List Value).toArray 24)) := ((Fr.refl _ _).alloc _).alloc _
      refine (do_wr hlk hg hn8 ⟨5, 0, 1, K, 0⟩ hrp (.inl rfl) s0 s1 s2 s3 s4 s5 0 0 _ (hok5.no hf56)).mono ?_
      rintro e w6 ⟨A3, n3, c3, Q3, k3, q3, m3, rfl, hlk3, hok3, hp3, hn3, hg3, hf6⟩
      rw [h2]
      have hf66 := hf56.trans hf6
      have hO6 := hf66.whole hO5 (fun x => x)
      have hR6 := hf66.whole hR5 (fun x => x)
      have hN6 := hf6.whole hN2 (fun x => x)
      have hok6 := hok2.no hf66
      have hFe := (hF.trans hf45).trans hf66
      clear eM eR lM lR
      generalize w5.heap.size = gN at *
      have eO := hO6.cell
      have lO := hO6.lt
      have eR := hR6.cell
      have lR := hR6.lt
      have eN := hN6.cell
      have lN := hN6.lt
      go_wp2_with fail
      go_ret
      exact ⟨rfl, (hFe.alloc _).alloc _⟩
    | false =>
      cases hwk : o.weak with
      | true =>
        rw [hfr] at hO hf4 kq1 kq2
        rw [hwk] at hO hf4 kq1 kq2
        have h1 : wrE ⟨7, 0, 0, K, V⟩ m.pure [s0, s1, s2, s3, s4, s5] = 144 := kq1
        have h2 : wrE ⟨5, 0, 1, K, 0⟩ m.pure [s0, s1, s2, s3, s4, s5] = 144 := kq2
        clear kq1 kq2 hrow ho hfr hwk
        have hf5 := hf4
        go_wp2_with fail
        refine (do_wr hlk hg hn8 ⟨7, 0, 0, K, V⟩ hrw (.inr rfl) s0 s1 s2 s3 s4 s5 0 0 _ (hok.no hf4)).mono ?_
        rintro e w5 ⟨A2, n2, c2, Q2, k2, q2, m2, rfl, hlk2, hok2, hp2, hn2, hg2, hf5'⟩
        rw [h1]
        have hf45 := hf4.trans hf5'
        have hM5 := hf45.whole hM (fun x => x)
        have hR5 := hf45.whole hR (fun x => x)
        have hO5 := hf5'.whole hO (fun x => x)
        have hok5 := hok.no hf45
        clear hf5 eM eR lM lR
        generalize w4.heap.size = gO at *
        have eM := hM5.cell
        have eR := hR5.cell
        have lM := hM5.lt
        have lR := hR5.lt
        go_wp2_with fail
        have hN2 := (Whole.new w5 29 [.slice A2 n2 c2, .slice Q2 k2 q2]).alloc (.cells ([.int .i64 s0, .int .i64 s1, .int .i64 s2, .int .i64 s3, .int .i64 s4, .int .i64 s5] : List Value).toArray 24)
        have hf56 : Fr No w5 ((w5.alloc (.cells ([.slice A2 n2 c2, .slice Q2 k2 q2] : List Value).toArray 29)).alloc (.cells ([.int .i64 s0, .int .i64 s1, .int .i64 s2, .int .i64 s3, .int .i64 s4, .int .i64 s5] : List Value).toArray 24)) := ((Fr.refl _ _).alloc _).alloc _
        refine (do_wr hlk hg hn8 ⟨5, 0, 1, K, 0⟩ hrp (.inl rfl) s0 s1 s2 s3 s4 s5 0 0 _ (hok5.no hf56)).mono ?_
        rintro e w6 ⟨A3, n3, c3, Q3, k3, q3, m3, rfl, hlk3, hok3, hp3, hn3, hg3, hf6⟩
        rw [h2]
        have hf66 := hf56.trans hf6
        have hO6 := hf66.whole hO5 (fun x => x)
        have hR6 := hf66.whole hR5 (fun x => x)
        have hN6 := hf6.whole hN2 (fun x => x)
        have hok6 := hok2.no hf66
        have hFe := (hF.trans hf45).trans hf66
        clear eM eR lM lR
        generalize w5.heap.size = gN at *
        have eO := hO6.cell
        have lO := hO6.lt
        have eR := hR6.cell
        have lR := hR6.lt
        have eN := hN6.cell
        have lN := hN6.lt
        go_wp2_with fail
        go_ret
        exact ⟨rfl, (hFe.alloc _).alloc _⟩
      | false =>
        rw [hfr] at hO hf4 kq1 kq2
        rw [hwk] at hO hf4 kq1 kq2
        have kz1 : wrE ⟨7, 0, 0, K, V⟩ m.pure [s0, s1, s2, s3, s4, s5] = if K ≥ nl then 71 else 0 := kq1
        have kz2 : wrE ⟨5, 0, 1, K, 0⟩ m.pure [s0, s1, s2, s3, s4, s5] = if K ≥ pl then 71 else 0 := kq2
        clear kq1 kq2
        by_cases hw : K < (nl : Int)
        · have h1 : wrE ⟨7, 0, 0, K, V⟩ m.pure [s0, s1, s2, s3, s4, s5] = 0 := kz1.trans (if_neg (by omega))
          by_cases hq : K < (pl : Int)
          · have h2 : wrE ⟨5, 0, 1, K, 0⟩ m.pure [s0, s1, s2, s3, s4, s5] = 0 := kz2.trans (if_neg (by omega))
            clear kz1 kz2 hfr hwk
            have hf5 := hf4
            go_wp2_with fail
            refine (do_wr hlk hg hn8 ⟨7, 0, 0, K, V⟩ hrw (.inr rfl) s0 s1 s2 s3 s4 s5 0 0 _ (hok.no hf4)).mono ?_
            rintro e w5 ⟨A2, n2, c2, Q2, k2, q2, m2, rfl, hlk2, hok2, hp2, hn2, hg2, hf5'⟩
            rw [h1]
            have hf45 := hf4.trans hf5'
            have hM5 := hf45.whole hM (fun x => x)
            have hR5 := hf45.whole hR (fun x => x)
            have hO5 := hf5'.whole hO (fun x => x)
            have hok5 := hok.no hf45
            clear hf5 eM eR lM lR
            generalize w4.heap.size = gO at *
            have eM := hM5.cell
            have eR := hR5.cell
            have lM := hM5.lt
            have lR := hR5.lt
            go_wp2_with fail
            have hN2 := (Whole.new w5 29 [.slice A2 n2 c2, .slice Q2 k2 q2]).alloc (.cells ([.int .i64 s0, .int .i64 s1, .int .i64 s2, .int .i64 s3, .int .i64 s4, .int .i64 s5] : List Value).toArray 24)
            have hf56 : Fr No w5 ((w5.alloc (.cells ([.slice A2 n2 c2, .slice Q2 k2 q2] : List Value).toArray 29)).alloc (.cells ([.int .i64 s0, .int .i64 s1, .int .i64 s2, .int .i64 s3, .int .i64 s4, .int .i64 s5] : List Value).toArray 24)) := ((Fr.refl _ _).alloc _).alloc _
            refine (do_wr hlk hg hn8 ⟨5, 0, 1, K, 0⟩ hrp (.inl rfl) s0 s1 s2 s3 s4 s5 0 0 _ (hok5.no hf56)).mono ?_
            rintro e w6 ⟨A3, n3, c3, Q3, k3, q3, m3, rfl, hlk3, hok3, hp3, hn3, hg3, hf6⟩
            rw [h2]
            have hf66 := hf56.trans hf6
            have hO6 := hf66.whole hO5 (fun x => x)
            have hR6 := hf66.whole hR5 (fun x => x)
            have hN6 := hf6.whole hN2 (fun x => x)
            have hok6 := hok2.no hf66
            have hFe := (hF.trans hf45).trans hf66
            clear eM eR lM lR
            generalize w5.heap.size = gN at *
            have eO := hO6.cell
            have lO := hO6.lt
            have eR := hR6.cell
            have lR := hR6.lt
            have eN := hN6.cell
            have lN := hN6.lt
            have hrow6 := (hrow.no hf45).no hf66
            go_wp2_with fail
            refine gen_world _ (fun X => Whole X gN 29 [.slice A2 n2 c2, .slice Q2 k2 q2] ∧ Whole X gR 24 [.int .i64 s0, .int .i64 s1, .int .i64 s2, .int .i64 s3, .int .i64 s4, .int .i64 s5] ∧ Whole X gO 41 [.int .i64 o.serial, .int .i64 pl, .int .i64 nl, .bool false, .bool o.fin, .slice pA pl pc, .slice nA nl nc, .bool false] ∧ Whole X w6.heap.size 29 [.slice A3 n3 c3, .slice Q3 k3 q3] ∧ m2.ok X ∧ m3.ok X ∧ Row X 1 nA nl nc (intVals o.nums) ∧ Fr No w X) ⟨(hN6.alloc _).alloc _, (hR6.alloc _).alloc _, (hO6.alloc _).alloc _, (Whole.new w6 29 [.slice A3 n3 c3, .slice Q3 k3 q3]).alloc _, hok6.no (((Fr.refl _ _).alloc _).alloc _), hok3.no (((Fr.refl _ _).alloc _).alloc _), hrow6.no (((Fr.refl _ _).alloc _).alloc _), (hFe.alloc _).alloc _⟩ ?_
            clear hN6 hR6 hO6 hok6 hok3 hrow6 hFe eO lO eR lR eN lN
            generalize w6.heap.size = gP at *
            rintro X ⟨hNx, hRx, hOx, hPx, hok2x, hok3x, hrowx, hFx⟩
            go_loopw [25] (fun i wr => ∃ j : Nat, j ≤ nl ∧ i = .int .i64 j ∧ Fr No X wr) (fun i _ => nl - (intOf i).toNat)
            case atStart => exact ⟨0, by omega, rfl, Fr.refl _ _⟩
            case round =>
              obtain ⟨j, hj, rfl, hfx⟩ := hrel
              have hO7 := hfx.whole hOx (fun x => x)
              have eO := hO7.cell
              have lO := hO7.lt
              have i1 : (0 : Int) ≤ (j : Int) := by omega
              by_cases hjl : j < nl
              · have hjl' : (j : Int) < (nl : Int) := by omega
                have hN7 := hfx.whole hNx (fun x => x)
                have hR7 := hfx.whole hRx (fun x => x)
                have eN := hN7.cell
                have lN := hN7.lt
                have eR := hR7.cell
                have lR := hR7.lt
                have hrd := do_rd hlk2 hg hn2 s0 s1 s2 s3 s4 s5 K V K0 hp2 ho h1 j (by omega) (by omega) wr (hok2x.no hfx)
                obtain ⟨x, hx⟩ : ∃ x, o.nums[j]? = some x := ⟨_, List.getElem?_eq_getElem (by omega)⟩
                have hgd : o.nums.getD j 0 = x := by rw [List.getD_eq_getElem?_getD, hx]; rfl
                rw [hgd] at hrd
                obtain ⟨nb, no, rfl, hnb, -⟩ := hrowx.2.2 (by omega)
                have hcx := row_at hrowx hx
                by_cases hjK : (j : Int) = K
                · rw [if_pos hjK] at hrd
                  have Hrd := Lib.hid hrd
                  have hb1 : ((j : Int) == K) = true := by simp [hjK]
                  have hb2 : ((j : Int) != K) = false := by simp [hjK]
                  have hb3 : (V != V) = false := by simp
                  clear hrd hjK
                  go_wp2_with fail
                  refine Hrd.out.mono ?_
                  rintro e z1 ⟨A4, n4, c4, Q4, k4, q4, rfl, hfz⟩
                  have hO8 := hfz.whole hO7 (fun x => x)
                  clear eO lO eN lN eR lR hcx
                  have eO := hO8.cell
                  have lO := hO8.lt
                  go_wp2_with fail
                  go_roundw
                  case rel => exact ⟨j + 1, by omega, by go_num, (hfx.trans hfz).alloc _ |>.alloc _⟩
                  case measure => simp [intOf]; omega
                · rw [if_neg hjK] at hrd
                  have Hrd := Lib.hid hrd
                  have hb1 : ((j : Int) == K) = false := by simp [hjK]
                  have hb2 : ((j : Int) != K) = true := by simp [hjK]
                  have hb3 : (x != x) = false := by simp
                  clear hrd hjK
                  go_wp2_with fail
                  refine Hrd.out.mono ?_
                  rintro e z1 ⟨A4, n4, c4, Q4, k4, q4, rfl, hfz⟩
                  have hO8 := hfz.whole hO7 (fun x => x)
                  have hcz : z1.cell? ⟨nb, no + j, none⟩ = some (.int .i64 x) := ((hfx.trans hfz).cell (p := ⟨nb, no + j, none⟩) hnb (fun x => x)).trans hcx
                  have hnz : nb < z1.heap.size := by have := (hfx.trans hfz).size; omega
                  clear eO lO eN lN eR lR hcx
                  have eO := hO8.cell
                  have lO := hO8.lt
                  go_wp2_with fail
                  go_roundw
                  case rel => exact ⟨j + 1, by omega, by go_num, (hfx.trans hfz).alloc _ |>.alloc _⟩
                  case measure => simp [intOf]; omega
              · have hjn : j = nl := by omega
                subst hjn
                replace hPx := hfx.whole hPx (fun x => x)
                replace hRx := hfx.whole hRx (fun x => x)
                replace hok3x := hok3x.no hfx
                replace hFx := hFx.trans hfx
                have eP := hPx.cell
                have lP := hPx.lt
                have eR := hRx.cell
                have lR := hRx.lt
                go_wp2_with fail
                refine (do_gt hlk3 hg hn3 s0 s1 s2 s3 s4 s5 K K0 (by omega) hp3 h2 _ hok3x).mono ?_
                rintro e z1 ⟨A4, n4, c4, Q4, k4, q4, rfl, hfz⟩
                have hRz := hfz.whole hRx (fun x => x)
                clear eP lP eR lR
                have eR := hRz.cell
                have lR := hRz.lt
                have hb1 : (s1 == s1) = true := by simp
                go_wp2_with fail
                go_ret
                exact ⟨rfl, ((hFx.trans hfz).alloc _).alloc _⟩
          · have h2 : wrE ⟨5, 0, 1, K, 0⟩ m.pure [s0, s1, s2, s3, s4, s5] = 71 := kz2.trans (if_pos (by omega))
            clear kz1 kz2 hfr hwk
            have hf5 := hf4
            go_wp2_with fail
            refine (do_wr hlk hg hn8 ⟨7, 0, 0, K, V⟩ hrw (.inr rfl) s0 s1 s2 s3 s4 s5 0 0 _ (hok.no hf4)).mono ?_
            rintro e w5 ⟨A2, n2, c2, Q2, k2, q2, m2, rfl, hlk2, hok2, hp2, hn2, hg2, hf5'⟩
            rw [h1]
            have hf45 := hf4.trans hf5'
            have hM5 := hf45.whole hM (fun x => x)
            have hR5 := hf45.whole hR (fun x => x)
            have hO5 := hf5'.whole hO (fun x => x)
            have hok5 := hok.no hf45
            clear hf5 eM eR lM lR
            generalize w4.heap.size = gO at *
            have eM := hM5.cell
            have eR := hR5.cell
            have lM := hM5.lt
            have lR := hR5.lt
            go_wp2_with fail
            have hN2 := (Whole.new w5 29 [.slice A2 n2 c2, .slice Q2 k2 q2]).alloc (.cells ([.int .i64 s0, .int .i64 s1, .int .i64 s2, .int .i64 s3, .int .i64 s4, .int .i64 s5] : List Value).toArray 24)
            have hf56 : Fr No w5 ((w5.alloc (.cells ([.slice A2 n2 c2, .slice Q2 k2 q2] : List Value).toArray 29)).alloc (.cells ([.int .i64 s0, .int .i64 s1, .int .i64 s2, .int .i64 s3, .int .i64 s4, .int .i64 s5] : List Value).toArray 24)) := ((Fr.refl _ _).alloc _).alloc _
            refine (do_wr hlk hg hn8 ⟨5, 0, 1, K, 0⟩ hrp (.inl rfl) s0 s1 s2 s3 s4 s5 0 0 _ (hok5.no hf56)).mono ?_
            rintro e w6 ⟨A3, n3, c3, Q3, k3, q3, m3, rfl, hlk3, hok3, hp3, hn3, hg3, hf6⟩
            rw [h2]
            have hf66 := hf56.trans hf6
            have hO6 := hf66.whole hO5 (fun x => x)
            have hR6 := hf66.whole hR5 (fun x => x)
            have hN6 := hf6.whole hN2 (fun x => x)
            have hok6 := hok2.no hf66
            have hFe := (hF.trans hf45).trans hf66
            clear eM eR lM lR
            generalize w5.heap.size = gN at *
            have eO := hO6.cell
            have lO := hO6.lt
            have eR := hR6.cell
            have lR := hR6.lt
            have eN := hN6.cell
            have lN := hN6.lt
            have hrow6 := (hrow.no hf45).no hf66
            go_wp2_with fail
            refine gen_world _ (fun X => Whole X gN 29 [.slice A2 n2 c2, .slice Q2 k2 q2] ∧ Whole X gR 24 [.int .i64 s0, .int .i64 s1, .int .i64 s2, .int .i64 s3, .int .i64 s4, .int .i64 s5] ∧ Whole X gO 41 [.int .i64 o.serial, .int .i64 pl, .int .i64 nl, .bool false, .bool o.fin, .slice pA pl pc, .slice nA nl nc, .bool false] ∧ Whole X w6.heap.size 29 [.slice A3 n3 c3, .slice Q3 k3 q3] ∧ m2.ok X ∧ m3.ok X ∧ Row X 1 nA nl nc (intVals o.nums) ∧ Fr No w X) ⟨(hN6.alloc _).alloc _, (hR6.alloc _).alloc _, (hO6.alloc _).alloc _, (Whole.new w6 29 [.slice A3 n3 c3, .slice Q3 k3 q3]).alloc _, hok6.no (((Fr.refl _ _).alloc _).alloc _), hok3.no (((Fr.refl _ _).alloc _).alloc _), hrow6.no (((Fr.refl _ _).alloc _).alloc _), (hFe.alloc _).alloc _⟩ ?_
            clear hN6 hR6 hO6 hok6 hok3 hrow6 hFe eO lO eR lR eN lN
            generalize w6.heap.size = gP at *
            rintro X ⟨hNx, hRx, hOx, hPx, hok2x, hok3x, hrowx, hFx⟩
            go_loopw [25] (fun i wr => ∃ j : Nat, j ≤ nl ∧ i = .int .i64 j ∧ Fr No X wr) (fun i _ => nl - (intOf i).toNat)
            case atStart => exact ⟨0, by omega, rfl, Fr.refl _ _⟩
            case round =>
              obtain ⟨j, hj, rfl, hfx⟩ := hrel
              have hO7 := hfx.whole hOx (fun x => x)
              have eO := hO7.cell
              have lO := hO7.lt
              have i1 : (0 : Int) ≤ (j : Int) := by omega
              by_cases hjl : j < nl
              · have hjl' : (j : Int) < (nl : Int) := by omega
                have hN7 := hfx.whole hNx (fun x => x)
                have hR7 := hfx.whole hRx (fun x => x)
                have eN := hN7.cell
                have lN := hN7.lt
                have eR := hR7.cell
                have lR := hR7.lt
                have hrd := do_rd hlk2 hg hn2 s0 s1 s2 s3 s4 s5 K V K0 hp2 ho h1 j (by omega) (by omega) wr (hok2x.no hfx)
                obtain ⟨x, hx⟩ : ∃ x, o.nums[j]? = some x := ⟨_, List.getElem?_eq_getElem (by omega)⟩
                have hgd : o.nums.getD j 0 = x := by rw [List.getD_eq_getElem?_getD, hx]; rfl
                rw [hgd] at hrd
                obtain ⟨nb, no, rfl, hnb, -⟩ := hrowx.2.2 (by omega)
                have hcx := row_at hrowx hx
                by_cases hjK : (j : Int) = K
                · rw [if_pos hjK] at hrd
                  have Hrd := Lib.hid hrd
                  have hb1 : ((j : Int) == K) = true := by simp [hjK]
                  have hb2 : ((j : Int) != K) = false := by simp [hjK]
                  have hb3 : (V != V) = false := by simp
                  clear hrd hjK
                  go_wp2_with fail
                  refine Hrd.out.mono ?_
                  rintro e z1 ⟨A4, n4, c4, Q4, k4, q4, rfl, hfz⟩
                  have hO8 := hfz.whole hO7 (fun x => x)
                  clear eO lO eN lN eR lR hcx
                  have eO := hO8.cell
                  have lO := hO8.lt
                  go_wp2_with fail
                  go_roundw
                  case rel => exact ⟨j + 1, by omega, by go_num, (hfx.trans hfz).alloc _ |>.alloc _⟩
                  case measure => simp [intOf]; omega
                · rw [if_neg hjK] at hrd
                  have Hrd := Lib.hid hrd
                  have hb1 : ((j : Int) == K) = false := by simp [hjK]
                  have hb2 : ((j : Int) != K) = true := by simp [hjK]
                  have hb3 : (x != x) = false := by simp
                  clear hrd hjK
                  go_wp2_with fail
                  refine Hrd.out.mono ?_
                  rintro e z1 ⟨A4, n4, c4, Q4, k4, q4, rfl, hfz⟩
                  have hO8 := hfz.whole hO7 (fun x => x)
                  have hcz : z1.cell? ⟨nb, no + j, none⟩ = some (.int .i64 x) := ((hfx.trans hfz).cell (p := ⟨nb, no + j, none⟩) hnb (fun x => x)).trans hcx
                  have hnz : nb < z1.heap.size := by have := (hfx.trans hfz).size; omega
                  clear eO lO eN lN eR lR hcx
                  have eO := hO8.cell
                  have lO := hO8.lt
                  go_wp2_with fail
                  go_roundw
                  case rel => exact ⟨j + 1, by omega, by go_num, (hfx.trans hfz).alloc _ |>.alloc _⟩
                  case measure => simp [intOf]; omega
              · have hjn : j = nl := by omega
                subst hjn
                replace hPx := hfx.whole hPx (fun x => x)
                replace hRx := hfx.whole hRx (fun x => x)
                replace hok3x := hok3x.no hfx
                replace hFx := hFx.trans hfx
                go_wp2_with fail
                go_ret
                exact ⟨rfl, hFx⟩
        · have h1 : wrE ⟨7, 0, 0, K, V⟩ m.pure [s0, s1, s2, s3, s4, s5] = 71 := kz1.trans (if_pos (by omega))
          by_cases hq : K < (pl : Int)
          · have h2 : wrE ⟨5, 0, 1, K, 0⟩ m.pure [s0, s1, s2, s3, s4, s5] = 0 := kz2.trans (if_neg (by omega))
            clear kz1 kz2 hfr hwk hrow
            have hf5 := hf4
            go_wp2_with fail
            refine (do_wr hlk hg hn8 ⟨7, 0, 0, K, V⟩ hrw (.inr rfl) s0 s1 s2 s3 s4 s5 0 0 _ (hok.no hf4)).mono ?_
            rintro e w5 ⟨A2, n2, c2, Q2, k2, q2, m2, rfl, hlk2, hok2, hp2, hn2, hg2, hf5'⟩
            rw [h1]
            have hf45 := hf4.trans hf5'
            have hM5 := hf45.whole hM (fun x => x)
            have hR5 := hf45.whole hR (fun x => x)
            have hO5 := hf5'.whole hO (fun x => x)
            have hok5 := hok.no hf45
            clear hf5 eM eR lM lR
            generalize w4.heap.size = gO at *
            have eM := hM5.cell
            have eR := hR5.cell
            have lM := hM5.lt
            have lR := hR5.lt
            go_wp2_with fail
            have hN2 := (Whole.new w5 29 [.slice A2 n2 c2, .slice Q2 k2 q2]).alloc (.cells ([.int .i64 s0, .int .i64 s1, .int .i64 s2, .int .i64 s3, .int .i64 s4, .int .i64 s5] : List Value).toArray 24)
            have hf56 : Fr No w5 ((w5.alloc (.cells ([.slice A2 n2 c2, .slice Q2 k2 q2] : List Value).toArray 29)).alloc (.cells ([.int .i64 s0, .int .i64 s1, .int .i64 s2, .int .i64 s3, .int .i64 s4, .int .i64 s5] : List Value).toArray 24)) := ((Fr.refl _ _).alloc _).alloc _
            refine (do_wr hlk hg hn8 ⟨5, 0, 1, K, 0⟩ hrp (.inl rfl) s0 s1 s2 s3 s4 s5 0 0 _ (hok5.no hf56)).mono ?_
            rintro e w6 ⟨A3, n3, c3, Q3, k3, q3, m3, rfl, hlk3, hok3, hp3, hn3, hg3, hf6⟩
            rw [h2]
            have hf66 := hf56.trans hf6
            have hO6 := hf66.whole hO5 (fun x => x)
            have hR6 := hf66.whole hR5 (fun x => x)
            have hN6 := hf6.whole hN2 (fun x => x)
            have hok6 := hok2.no hf66
            have hFe := (hF.trans hf45).trans hf66
            clear eM eR lM lR
            generalize w5.heap.size = gN at *
            have eO := hO6.cell
            have lO := hO6.lt
            have eR := hR6.cell
            have lR := hR6.lt
            have eN := hN6.cell
            have lN := hN6.lt
            have hPx := (Whole.new w6 29 [.slice A3 n3 c3, .slice Q3 k3 q3]).alloc (.cells ([.int .i64 s0, .int .i64 s1, .int .i64 s2, .int .i64 s3, .int .i64 s4, .int .i64 s5] : List Value).toArray 24)
            have hRx := (hR6.alloc (.cells ([.slice A3 n3 c3, .slice Q3 k3 q3] : List Value).toArray 29)).alloc (.cells ([.int .i64 s0, .int .i64 s1, .int .i64 s2, .int .i64 s3, .int .i64 s4, .int .i64 s5] : List Value).toArray 24)
            go_wp2_with fail
            refine (do_gt hlk3 hg hn3 s0 s1 s2 s3 s4 s5 K K0 (by omega) hp3 h2 _ (hok3.no (((Fr.refl _ _).alloc _).alloc _))).mono ?_
            rintro e z1 ⟨A4, n4, c4, Q4, k4, q4, rfl, hfz⟩
            have hRz := hfz.whole hRx (fun x => x)
            clear eO lO eR lR eN lN
            have eR := hRz.cell
            have lR := hRz.lt
            have hb1 : (s1 == s1) = true := by simp
            go_wp2_with fail
            go_ret
            exact ⟨rfl, ((((hFe.alloc _).alloc _).trans hfz).alloc _).alloc _⟩
          · have h2 : wrE ⟨5, 0, 1, K, 0⟩ m.pure [s0, s1, s2, s3, s4, s5] = 71 := kz2.trans (if_pos (by omega))
            clear kz1 kz2 hfr hwk hrow
            have hf5 := hf4
            go_wp2_with fail
            refine (do_wr hlk hg hn8 ⟨7, 0, 0, K, V⟩ hrw (.inr rfl) s0 s1 s2 s3 s4 s5 0 0 _ (hok.no hf4)).mono ?_
            rintro e w5 ⟨A2, n2, c2, Q2, k2, q2, m2, rfl, hlk2, hok2, hp2, hn2, hg2, hf5'⟩
            rw [h1]
            have hf45 := hf4.trans hf5'
            have hM5 := hf45.whole hM (fun x => x)
            have hR5 := hf45.whole hR (fun x => x)
            have hO5 := hf5'.whole hO (fun x => x)
            have hok5 := hok.no hf45
            clear hf5 eM eR lM lR
            generalize w4.heap.size = gO at *
            have eM := hM5.cell
            have eR := hR5.cell
            have lM := hM5.lt
            have lR := hR5.lt
            go_wp2_with fail
            have hN2 := (Whole.new w5 29 [.slice A2 n2 c2, .slice Q2 k2 q2]).alloc (.cells ([.int .i64 s0, .int .i64 s1, .int .i64 s2, .int .i64 s3, .int .i64 s4, .int .i64 s5] : List Value).toArray 24)
            have hf56 : Fr No w5 ((w5.alloc (.cells ([.slice A2 n2 c2, .slice Q2 k2 q2] : List Value).toArray 29)).alloc (.cells ([.int .i64 s0, .int .i64 s1, .int .i64 s2, .int .i64 s3, .int .i64 s4, .int .i64 s5] : List Value).toArray 24)) := ((Fr.refl _ _).alloc _).alloc _
            refine (do_wr hlk hg hn8 ⟨5, 0, 1, K, 0⟩ hrp (.inl rfl) s0 s1 s2 s3 s4 s5 0 0 _ (hok5.no hf56)).mono ?_
            rintro e w6 ⟨A3, n3, c3, Q3, k3, q3, m3, rfl, hlk3, hok3, hp3, hn3, hg3, hf6⟩
            rw [h2]
            have hf66 := hf56.trans hf6
            have hO6 := hf66.whole hO5 (fun x => x)
            have hR6 := hf66.whole hR5 (fun x => x)
            have hN6 := hf6.whole hN2 (fun x => x)
            have hok6 := hok2.no hf66
            have hFe := (hF.trans hf45).trans hf66
            clear eM eR lM lR
            generalize w5.heap.size = gN at *
            have eO := hO6.cell
            have lO := hO6.lt
            have eR := hR6.cell
            have lR := hR6.lt
            have eN := hN6.cell
            have lN := hN6.lt
            go_wp2_with fail
            go_ret
            exact ⟨rfl, (hFe.alloc _).alloc _⟩
end Go.Proofs.Ytbjknkgefpeohaa
