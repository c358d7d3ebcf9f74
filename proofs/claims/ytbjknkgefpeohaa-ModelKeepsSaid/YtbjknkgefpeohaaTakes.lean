/- ModelTakes answers true: items are taken in their order, each once, as far as they are seen. Conditions: numbers of 64 bits. -/
import Derived.Test.YtbjknkgefpeohaaAwake
import Derived.Test.YtbjknkgefpeohaaLaw18b
import Derived.Test.YtbjknkgefpeohaaSixEq
namespace Go.Proofs.Ytbjknkgefpeohaa
open Go.RowKit
attribute [local go_sem ↓] Go.wp_at_zero Go.wp_at_succ

/-- A row that begins with an integer does not lie in a block that holds none. -/
theorem Row.store {w w' : World} {size n c M : Nat} {A : Option Addr} {xs cs : List Value} {T : TypeId} (h : Row w size A n c xs) (hx : 0 < n → ∃ z, xs[0]? = some (.int .i64 z)) (hM : Whole w M T cs) (hcs : ∀ (i : Nat) z, cs[i]? ≠ some (.int .i64 z)) (hf : Fr (Only M) w w') : Row w' size A n c xs := by
  refine ⟨h.1, h.2.1, fun hn => ?_⟩
  obtain ⟨b, o, hA, hb, hc⟩ := h.2.2 hn
  obtain ⟨z, hz⟩ := hx hn
  have hbM : ¬ Only M b := fun e => by
    have e' : b = M := e
    have h0 := hc 0 _ hz
    rw [e', hM.cell] at h0
    exact hcs _ _ h0
  exact ⟨b, o, hA, Nat.lt_of_lt_of_le hb hf.size, fun j u hu => (hf.cell (p := ⟨b, o + j, none⟩) hb hbM).trans (hc j u hu)⟩
theorem RM.ok.store {w w' : World} {m : RM} {M : Nat} {cs : List Value} {T : TypeId} (h : m.ok w) (hM : Whole w M T cs) (hcs : ∀ (i : Nat) z, cs[i]? ≠ some (.int .i64 z)) (hf : Fr (Only M) w w') : m.ok w' := by
  have hi : ∀ l : List Int, 0 < l.length → ∃ z, (intVals l)[0]? = some (.int .i64 z) := fun l hl => by
    cases l with
    | nil => simp at hl
    | cons x l => exact ⟨x, rfl⟩
  refine ⟨h.row.store (fun hn => ?_) hM hcs hf, fun r hr => ?_, h.queue.store (fun hn => ?_) hM hcs hf, h.nobjs, h.nqueue⟩
  · cases hr : m.ros with
    | nil => rw [hr] at hn; simp at hn
    | cons r l => exact ⟨r.o.serial, rfl⟩
  · obtain ⟨pA, pc, nA, nc, e1, e2, r1, r2, c1, c2⟩ := h.objs r hr
    exact ⟨pA, pc, nA, nc, e1, e2, r1.store (hi _) hM hcs hf, r2.store (hi _) hM hcs hf, c1, c2⟩
  · cases hr : m.qs with
    | nil => rw [hr] at hn; simp at hn
    | cons r l => exact ⟨r.1, rfl⟩
theorem two_slices {A Q : Option Addr} {n c k q : Nat} : ∀ (i : Nat) z, ([.slice A n c, .slice Q k q] : List Value)[i]? ≠ some (.int .i64 z) := by
  intro i z
  match i with
  | 0 => simp
  | 1 => simp
  | i + 2 => simp
theorem row_int {w : World} {b o n c : Nat} {xs : List Int} (h : Row w 1 (some ⟨b, o, none⟩) n c (intVals xs)) {k : Nat} {x : Int} (hx : xs[k]? = some x) : w.cell? ⟨b, o + k, none⟩ = some (.int .i64 x) := by
  have hk := (List.getElem?_eq_some_iff.1 hx).1
  have hl := h.1
  simp [intVals] at hl
  obtain ⟨b', o', hA, _, hc⟩ := h.2.2 (by omega)
  injection hA with hA
  injection hA with h1 h2
  subst h1 h2
  exact hc k _ (by simp [intVals, hx])
theorem come_out (m : RM) (s q : Int) (w : World) (h : m.ok w) (hn : m.ros.length + 1 ≤ Cap) (hq : m.qs.length + 1 ≤ Cap) :
    Calls Try.prog 16 #[.agg #[.slice m.A m.ros.length m.c, .slice m.Q m.qs.length m.qc], .int .i64 s, .int .i64 q] w
      fun e w' => ∃ A n c Q k qc, ∃ m' : RM, e = .returned (.agg #[.slice A n c, .slice Q k qc]) ∧ (m'.A = A ∧ m'.ros.length = n ∧ m'.c = c ∧ m'.Q = Q ∧ m'.qs.length = k ∧ m'.qc = qc) ∧ m'.ok w' ∧ m'.pure = ⟨m.pure.objs, m.pure.queue ++ [(s, q)]⟩ ∧ Fr No w w' :=
  (come_calls m s q w h hn hq).mono fun _ _ ⟨m', he, h1, h2, h3⟩ => ⟨_, _, _, _, _, _, m', he, ⟨rfl, rfl, rfl, rfl, rfl, rfl⟩, h1, h2, h3⟩

theorem same_six (a0 a1 a2 a3 a4 a5 : Int) : ∀ W, (Op.equalIn 10000 24 (.agg #[.int .i64 a0, .int .i64 a1, .int .i64 a2, .int .i64 a3, .int .i64 a4, .int .i64 a5]) (.agg #[.int .i64 a0, .int .i64 a1, .int .i64 a2, .int .i64 a3, .int .i64 a4, .int .i64 a5])).run Try.prog W = .ok true W := fun W => by
  rw [eq_six]; simp
theorem takes_do (ys : List Int) (K : Int) (hK : 0 ≤ K) (j : Nat) (m : RM) (hp : m.pure = ⟨[], (tkQ ys).drop (tkAt ys.length K j)⟩) (w : World) (h : m.ok w) :
    Calls Try.prog 12 #[.agg #[.slice m.A m.ros.length m.c, .slice m.Q m.qs.length m.qc], .agg #[.int .i64 9, .int .i64 9, .int .i64 9, .int .i64 9, .int .i64 9, .int .i64 9], .agg #[.int .i64 10, .int .i64 2, .int .i64 0, .int .i64 0, .int .i64 0], .int .i64 0, .int .i64 K] w
      fun e w' => ∃ A n c Q k qc, ∃ m' : RM, e = .returned (.tuple #[.agg #[.slice A n c, .slice Q k qc], .agg #[.int .i64 9, .int .i64 9, .int .i64 (tkV ys K j), .int .i64 9, .int .i64 9, .int .i64 9], .int .i64 (tkV ys K j), .int .i64 0]) ∧ (m'.A = A ∧ m'.ros.length = n ∧ m'.c = c ∧ m'.Q = Q ∧ m'.qs.length = k ∧ m'.qc = qc) ∧ m'.ok w' ∧ m'.pure = ⟨[], (tkQ ys).drop (tkAt ys.length K (j + 1))⟩ ∧ Fr No w w' := by
  have hr : m.ros.length = 0 := by have := congrArg (fun y => y.objs.length) hp; simpa [RM.pure] using this
  refine (Do_calls m ⟨10, 2, 0, 0, 0⟩ 9 9 9 9 9 9 0 K w h (by rw [hr]; decide)).mono ?_
  rintro e w' ⟨m', r', v, c, rfl, hf, hok, -, hd⟩
  rw [hp, takes_law ys K hK j] at hd
  injection hd with h1 hd
  injection hd with h2 hd
  injection hd with h3 h4
  subst h2 h3 h4
  exact ⟨_, _, _, _, _, _, m', rfl, ⟨rfl, rfl, rfl, rfl, rfl, rfl⟩, hok, h1.symm, hf⟩

set_option maxRecDepth 4000 in
set_option maxHeartbeats 2000000 in
theorem takes_calls (xs : List Int) (A : Option Addr) (c : Nat) (seen : Int) (w : World) (h : Row w 1 A xs.length c (intVals xs)) (hx : ∀ x ∈ xs, I64 x) (hs : I64 seen) (hl : xs.length ≤ 9223372036854775807) :
    Calls Try.prog 7 #[.slice A xs.length c, .int .i64 seen] w fun e w' => e = .returned (.bool true) ∧ Fr No w w' := by
  have hK := pickZ_bd seen 8 (by decide)
  have Hpk := Lib.hid fun W => pick_18 seen 8 hs (by decide) (by decide) W
  generalize pickZ seen 8 = K at *
  generalize hn : xs.length = len at *
  obtain ⟨N, hN, hN6, hNl, hN'⟩ : ∃ N : Nat, (if (6 : Int) < (len : Int) then (6 : Int) else (len : Int)) = (N : Int) ∧ N ≤ 6 ∧ N ≤ len ∧ (xs.take 6).length = N := by
    refine ⟨min len 6, ?_, by omega, by omega, by simp; omega⟩
    split <;> omega
  go_enter Try.func7, Try.ntmps7
  go_wp2_with fail
  refine (awake_calls w).mono ?_
  rintro e w1 ⟨rfl, hf1⟩
  go_wp2_with fail
  have hM0 := Whole.new w1 29 [.slice none 0 0, .slice none 0 0]
  have h1 := h.no (hf1.alloc (.cells ([.slice none 0 0, .slice none 0 0] : List Value).toArray 29))
  have hf1' := hf1.alloc (.cells ([.slice none 0 0, .slice none 0 0] : List Value).toArray 29)
  have hlt1 : w.heap.size ≤ w1.heap.size := hf1.size
  generalize w1.heap.size = M at *
  generalize w1.alloc (.cells ([.slice none 0 0, .slice none 0 0] : List Value).toArray 29) = w2 at *
  have hrow := h1
  have Hcap := Lib.hid (show (7 : Nat) ≤ Cap by decide)
  have Hrow := Lib.hid h
  clear h h1 hf1
  go_loopw [8] (fun i wr => ∃ k : Nat, k ≤ N ∧ i = .int .i64 k ∧ ∃ m : RM, Whole wr M 29 [.slice m.A m.ros.length m.c, .slice m.Q m.qs.length m.qc] ∧ m.ok wr ∧ m.pure = ⟨[], tkQ (xs.take k)⟩ ∧ Fr (Only M) w2 wr) (fun i _ => N - (intOf i).toNat)
  case atStart => exact ⟨0, by omega, rfl, emptyRM, hM0, empty_ok _, rfl, Fr.refl _ _⟩
  case round =>
    obtain ⟨k, hk, rfl, m, hM, hok, hp, hf⟩ := hrel
    have e0 := hM.cell
    have z0 := hM.frozen
    have l0 := hM.lt
    have i1 : (0 : Int) ≤ (k : Int) := by omega
    by_cases hlt : k < N
    · obtain ⟨x, hxk⟩ : ∃ x, xs[k]? = some x := ⟨_, List.getElem?_eq_getElem (by omega)⟩
      have hlt' : (k : Int) < (len : Int) := by omega
      obtain ⟨b, o, rfl, hb, -⟩ := Hrow.out.2.2 (by omega)
      have hbM : b ≠ M := by omega
      have hbw : b < w2.heap.size := by have := hf1'.size; omega
      have Hc := Lib.hid fun X (hX : Fr (Only M) w2 X) => row_int (hrow.fr hX (fun b' o' e => by injection e with e; injection e with e; intro e2; exact hbM (e.trans e2))) hxk
      have c0 := Hc.out wr hf
      have hix := hx x (List.mem_of_getElem? hxk)
      have hpl : m.ros.length = 0 := by have := congrArg (fun y => y.objs.length) hp; simpa [RM.pure] using this
      have hql : m.qs.length = k := by have := congrArg (fun y => y.queue.length) hp; simp [RM.pure, tkQ] at this; omega
      obtain ⟨v0, v1⟩ := pickZ_bd x 99 (by decide)
      have hcap := Hcap.out
      have Hco := Lib.hid fun X (hX : Fr No wr X) => come_out m (1 + pickZ x 99) k X (hok.no hX) (by omega) (by omega)
      have Hpx := Lib.hid fun W => pick_18 x 99 hix (by decide) (by decide) W
      have HM := Lib.hid fun X (hX : Fr No wr X) => (hX.whole hM (fun x => x))
      have hbr : b < wr.heap.size := by have := hf.size; omega
      have Hp := Lib.hid hp
      have Hx := Lib.hid hxk
      clear hok hp hpl hql hcap hix hxk
      generalize hv : pickZ x 99 = v at *
      have hwr : IntKind.i64.wrap (1 + v) = 1 + v := IntWalk.i64_in _ (by omega)
      have Hv := Lib.hid hv
      clear hv
      go_wp2_with fail
      go_region_with (first | (go_at_call 14; with_reducible refine (Hpx.out _).mono ?_; rintro e w3 ⟨rfl, rfl⟩) | (go_at_call 16; with_reducible refine (Hco.out _ (by exact (Fr.refl No wr).drew)).mono ?_; rintro e w4 ⟨A2, n2, c2, Q2, k2, q2, m2, rfl, a2, hok2, hp2, hf2⟩; have hf3 := ((Fr.refl No wr).drew).trans hf2; have hM3 := HM.out _ hf3; have g0 := hM3.cell; have g1 := (hf3.cell (p := ⟨b, o + k, none⟩) hbr (fun x => x)).trans c0; have z3 := hM3.frozen))
      all_goals
        refine gen_exit _ (fun X => Whole X M 29 [.slice A2 n2 c2, .slice Q2 k2 q2] ∧ Fr (Only M) w4 X) ⟨(hM3.set 0 _).set 1 _, ((Fr.refl _ _).set _ _ (Or.inl (only_self _)) _).set _ _ (Or.inl (only_self _)) _⟩ ?_
        rintro X ⟨hX, hfX⟩
        clear e0 z0 l0 g0 g1 z3
        go_wp2
        go_roundw
        case rel =>
          obtain ⟨a0, a1, a2, a3, a4, a5⟩ := a2
          subst a0 a1 a2 a3 a4 a5
          have hk1 : k + 1 ≤ N := by omega
          have hks : xs.take (k + 1) = xs.take k ++ [x] := by rw [List.take_add_one, Hx.out]; rfl
          have hkl : (xs.take k).length = k := by simp; omega
          refine ⟨k + 1, hk1, by go_num, m2, hX, hok2.store hM3 two_slices hfX, ?_, (hf.trans ((fr_no hf3).trans hfX))⟩
          rw [hp2, Hp.out, hks, tkQ_snoc, hkl, Hv.out]
        case measure => simp [intOf]; omega
    · have hkN : N = k := by omega
      subst hkN
      have hyl : (xs.take N).length = N := by simp; omega
      have hyx : ∀ j, j < N → (xs.take N)[j]? = xs[j]? := fun j hj => List.getElem?_take_of_lt hj
      have hp0 : m.pure = ⟨[], (tkQ (xs.take N)).drop (tkAt N K 0)⟩ := by rw [hp]; simp [tkAt]
      have hf0 := hf
      generalize hys : xs.take N = ys at *
      have Hy := Lib.hid (And.intro hyl hyx)
      clear hyl hyx hys hp e0 z0 l0 hM0 hN hN'
      go_wp2_with fail
      refine (Hpk.out _).mono ?_
      rintro e w3 ⟨rfl, hw3⟩
      subst hw3
      go_wp2_with fail
      go_loopw [10] (fun i wr => ∃ j : Nat, j ≤ N + 2 ∧ i = .int .i64 j ∧ ∃ m : RM, Whole wr M 29 [.slice m.A m.ros.length m.c, .slice m.Q m.qs.length m.qc] ∧ m.ok wr ∧ m.pure = ⟨[], (tkQ ys).drop (tkAt N K j)⟩ ∧ Fr (Only M) w2 wr) (fun i _ => N + 2 - (intOf i).toNat)
      case atStart => exact ⟨0, by omega, rfl, m, hM, hok, hp0, hf⟩
      case round =>
        clear hM hok hp0 hf hf0
        obtain ⟨j, hj, rfl, m, hM, hok, hp, hf⟩ := hrel
        have e0 := hM.cell
        have z0 := hM.frozen
        have l0 := hM.lt
        have i1 : (0 : Int) ≤ (j : Int) := by omega
        by_cases hlt : j < N + 2
        · have hlt' : (j : Int) < (N : Int) + 2 := by omega
          have HM := Lib.hid fun X (hX : Fr No wr X) => hX.whole hM (fun x => x)
          have Hdo := Lib.hid (by have := takes_do ys K hK.1 j m (by rw [Hy.out.1]; exact hp) wr hok; rwa [Hy.out.1] at this)
          clear hok hp
          have hK8 := hK.2
          by_cases hc : j < N ∧ (j : Int) < K
          · obtain ⟨x, hxk⟩ : ∃ x, ys[j]? = some x := ⟨_, List.getElem?_eq_getElem (by rw [Hy.out.1]; exact hc.1)⟩
            have hxk' : xs[j]? = some x := (Hy.out.2 j hc.1).symm.trans hxk
            obtain ⟨b, o, rfl, hb, -⟩ := Hrow.out.2.2 (by omega)
            have hbM : b ≠ M := by omega
            have hbw : b < w2.heap.size := by have := hf1'.size; omega
            have Hc := Lib.hid fun X (hX : Fr (Only M) w2 X) => row_int (hrow.fr hX (fun b' o' e => by injection e with e; injection e with e; intro e2; exact hbM (e.trans e2))) hxk'
            have hix := hx x (List.mem_of_getElem? hxk')
            obtain ⟨v0, v1⟩ := pickZ_bd x 99 (by decide)
            have Hpx := Lib.hid fun W => pick_18 x 99 hix (by decide) (by decide) W
            have hV : tkV ys K j = 1 + pickZ x 99 := by unfold tkV; rw [Hy.out.1, if_pos hc, List.getD_eq_getElem?_getD, hxk]; rfl
            rw [hV] at Hdo
            clear hV hix hxk hxk'
            generalize pickZ x 99 = v at *
            have hwr : IntKind.i64.wrap (1 + v) = 1 + v := IntWalk.i64_in _ (by omega)
            obtain ⟨c1, c2⟩ := hc
            have c1' : (j : Int) < (N : Int) := by omega
            have c3 : (j : Int) < (len : Int) := by omega
            go_wp2_with fail
            refine (Hdo.out).mono ?_
            rintro e w4 ⟨A2, n2, cc2, Q2, k2, q2, m2, rfl, a2, hok2, hp2, hf2⟩
            have hM4 := HM.out w4 hf2
            have hb4 : b < w4.heap.size := by have := hf.size; have := hf2.size; omega
            have e1 := hM4.cell
            have z1 := hM4.frozen
            have l1 := hM4.lt
            have g0 := Hc.out w4 (hf.trans (fr_no hf2))
            clear e0 z0 l0 hl hf1' hrow hn hM
            have hsq := same_six 9 9 (1 + v) 9 9 9
            go_wp2_with (go_at_call 14; refine (Hpx.out _).mono ?_; rintro e w5 ⟨rfl, hw5⟩; subst hw5)
            have hfin : Fr (Only M) w4 ((((w4.setCell ⟨M, 0, none⟩ (.slice A2 n2 cc2)).setCell ⟨M, 1, none⟩ (.slice Q2 k2 q2)).alloc (.cells #[.slice A2 n2 cc2, .slice Q2 k2 q2] 29)).alloc (.cells #[.int .i64 9, .int .i64 9, .int .i64 (1 + v), .int .i64 9, .int .i64 9, .int .i64 9] 24)) := ((((Fr.refl _ _).set _ _ (Or.inl (only_self _)) _).set _ _ (Or.inl (only_self _)) _).alloc _).alloc _
            have hend := (((hM4.set 0 (.slice A2 n2 cc2)).set 1 (.slice Q2 k2 q2)).alloc (.cells #[.slice A2 n2 cc2, .slice Q2 k2 q2] 29)).alloc (.cells #[.int .i64 9, .int .i64 9, .int .i64 (1 + v), .int .i64 9, .int .i64 9, .int .i64 9] 24)
            go_roundw
            case rel =>
              obtain ⟨a0, a1, a2, a3, a4, a5⟩ := a2
              subst a0 a1 a2 a3 a4 a5
              exact ⟨j + 1, by omega, by go_num, m2, hend, hok2.store hM4 two_slices hfin, hp2, hf.trans ((fr_no hf2).trans hfin)⟩
            case measure => simp [intOf]; omega
          · have hV : tkV ys K j = 0 := by unfold tkV; rw [Hy.out.1, if_neg hc]
            rw [hV] at Hdo
            clear hV
            have hcc : ¬ (j : Int) < (N : Int) ∨ ((j : Int) < (N : Int) ∧ ¬ (j : Int) < K) := by omega
            clear hc
            go_wp2_with fail
            refine (Hdo.out).mono ?_
            rintro e w4 ⟨A2, n2, cc2, Q2, k2, q2, m2, rfl, a2, hok2, hp2, hf2⟩
            have hM4 := HM.out w4 hf2
            have e1 := hM4.cell
            have z1 := hM4.frozen
            have l1 := hM4.lt
            clear e0 z0 l0 hl hf1' hrow hn hM
            have hsq := same_six 9 9 0 9 9 9
            rcases hcc with c1 | ⟨c1, c2⟩
            all_goals
              go_wp2_with fail
              have hfin : Fr (Only M) w4 ((((w4.setCell ⟨M, 0, none⟩ (.slice A2 n2 cc2)).setCell ⟨M, 1, none⟩ (.slice Q2 k2 q2)).alloc (.cells #[.slice A2 n2 cc2, .slice Q2 k2 q2] 29)).alloc (.cells #[.int .i64 9, .int .i64 9, .int .i64 (0), .int .i64 9, .int .i64 9, .int .i64 9] 24)) := ((((Fr.refl _ _).set _ _ (Or.inl (only_self _)) _).set _ _ (Or.inl (only_self _)) _).alloc _).alloc _
              have hend := (((hM4.set 0 (.slice A2 n2 cc2)).set 1 (.slice Q2 k2 q2)).alloc (.cells #[.slice A2 n2 cc2, .slice Q2 k2 q2] 29)).alloc (.cells #[.int .i64 9, .int .i64 9, .int .i64 (0), .int .i64 9, .int .i64 9, .int .i64 9] 24)
              go_roundw
              case rel =>
                obtain ⟨a0, a1, a2, a3, a4, a5⟩ := a2
                subst a0 a1 a2 a3 a4 a5
                exact ⟨j + 1, by omega, by go_num, m2, hend, hok2.store hM4 two_slices hfin, hp2, hf.trans ((fr_no hf2).trans hfin)⟩
              case measure => simp [intOf]; omega
        · have hjN : (j : Int) = (N : Int) + 2 := by omega
          have hjN' : j = N + 2 := by omega
          have hql : (if (0 : Int) > (N : Int) - K then (0 : Int) else (N : Int) - K) = (m.qs.length : Int) := by
            have h1 := takes_end ys K hK.1
            rw [Hy.out.1, ← hjN'] at h1
            have h2 : m.qs.length = ((tkQ ys).drop (tkAt N K j)).length := by have := congrArg (fun y => y.queue.length) hp; simpa [RM.pure] using this
            rw [h2]
            split <;> omega
          have hw64 : IntKind.i64.wrap ((N : Int) - K) = (N : Int) - K := IntWalk.i64_in _ (by omega)
          have hend := hf1'.next hf (fun i hi e => by have e' : i = M := e; omega)
          clear hl hf1' hrow hn hp
          subst hjN'
          clear hjN
          go_wp2_with fail
          go_ret
          exact ⟨rfl, hend⟩
end Go.Proofs.Ytbjknkgefpeohaa
