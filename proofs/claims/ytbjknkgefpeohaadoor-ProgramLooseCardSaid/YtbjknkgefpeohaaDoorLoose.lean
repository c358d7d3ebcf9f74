/- ProgramLoose: its walk. Conditions: a deed and a number of 64 bits; the tables and errors of strconv. -/
import Derived.Test.YtbjknkgefpeohaaDoorForth
import Derived.Test.YtbjknkgefpeohaaDoorStepCall
namespace Go.Proofs.YtbjknkgefpeohaaDoor
open Go.RowKit
set_option maxRecDepth 100000
attribute [local go_sem ↓] Go.wp_at_zero Go.wp_at_succ

theorem bytes_pos {d : PDeed} (h : rightP d = true) : 1 ≤ (bytesOf d).size := by
  show 1 ≤ (textOf d).toArray.size
  rw [List.size_toArray]
  unfold textOf wordsP
  rw [Lib.join_cons, List.length_append]
  have := (word_len5 _ (right_kind h)).2
  omega
theorem extract_list (s : ByteArray) (a b : Nat) : (s.extract a b).data.toList = (s.data.toList.take b).drop a := by
  rw [Lib.extract_data, List.drop_take]
theorem loose_none {d : PDeed} (h : rightP d = true) (k : Nat) : parseP ((bytesOf d).extract 0 k ++ ⟨#[32]⟩ ++ (bytesOf d).extract k (bytesOf d).size).data.toList = none := by
  have e : ((bytesOf d).extract 0 k ++ ⟨#[32]⟩ ++ (bytesOf d).extract k (bytesOf d).size).data.toList = (textOf d).take k ++ 32 :: (textOf d).drop k := by
    rw [ByteArray.data_append, ByteArray.data_append, Array.toList_append, Array.toList_append, extract_list, extract_list]
    have hs : (bytesOf d).size = (bytesOf d).data.toList.length := rfl
    rw [hs, List.take_length]
    simp [bytesOf]
  rw [e]
  exact parse_loose h k
theorem shorter {x y : PDeed} {T : ByteArray} (hy : parseP T.data.toList = some y) (hT : T.size + 1 = (bytesOf x).size) : decide (y = x) = false := by
  rw [decide_eq_false_iff_not]
  rintro rfl
  obtain ⟨-, ht⟩ := parseP_inv hy
  have h1 : (bytesOf y).size = (textOf y).length := by
    show (textOf y).toArray.size = _
    rw [List.size_toArray]
  rw [h1, ht] at hT
  have : T.data.toList.length = T.size := rfl
  omega

theorem blank_size : (⟨#[32]⟩ : ByteArray).size = 1 := rfl
theorem join_one (t : ByteArray) (k : Nat) (hb : t.size ≤ 71) (W : World) : (Op.stringOp .add (t.extract 0 k) ⟨#[32]⟩).run Tryd.prog W = .ok (.string (t.extract 0 k ++ ⟨#[32]⟩)) W :=
  run_string_add_sum W _ _ (by rw [ByteArray.size_extract, blank_size]; omega)
theorem join_two (t : ByteArray) (k : Nat) (hb : t.size ≤ 71) (W : World) : (Op.stringOp .add (t.extract 0 k ++ ⟨#[32]⟩) (t.extract k t.size)).run Tryd.prog W = .ok (.string (t.extract 0 k ++ ⟨#[32]⟩ ++ t.extract k t.size)) W :=
  run_string_add_sum W _ _ (by rw [ByteArray.size_append, ByteArray.size_extract, ByteArray.size_extract, blank_size]; omega)
theorem join_cut (t : ByteArray) (i : Nat) (hb : t.size ≤ 71) (W : World) : (Op.stringOp .add (t.extract 0 i) (t.extract (i + 1) t.size)).run Tryd.prog W = .ok (.string (t.extract 0 i ++ t.extract (i + 1) t.size)) W :=
  run_string_add_sum W _ _ (by rw [ByteArray.size_extract, ByteArray.size_extract]; omega)
theorem blank_small (t : ByteArray) (k : Nat) (hb : t.size ≤ 71) : (t.extract 0 k ++ ⟨#[32]⟩ ++ t.extract k t.size).size ≤ 200 := by
  rw [ByteArray.size_append, ByteArray.size_append, ByteArray.size_extract, ByteArray.size_extract, blank_size]
  omega

theorem Fr.set5 {w w' : World} (h : Fr No w w') {g : Nat} (hg : w.heap.size ≤ g) {a b c d e : Value} : Fr No w (((((w'.setCell ⟨g, 0, none⟩ a).setCell ⟨g, 1, none⟩ b).setCell ⟨g, 2, none⟩ c).setCell ⟨g, 3, none⟩ d).setCell ⟨g, 4, none⟩ e) :=
  ((((h.set g 0 (Or.inr hg) a).set g 1 (Or.inr hg) b).set g 2 (Or.inr hg) c).set g 3 (Or.inr hg) d).set g 4 (Or.inr hg) e
/-- A call of one argument at a step of a region that draws its order. -/
theorem step_call1 {P : Program} {ops : Array Oper} {o : Oper} {a : Act} {K : Act → World → Prop} {Q : Exit → Act → World → Prop} {E : Prop} (w : World) (hgd : o.guard = none) (f : FuncId) (x : Operand) (ts : Array TypeId)
    (ho : o.op = .call { callee := .value (.func f), args := #[x], argTypes := ts }) (u : Value) (hx : a.eval x = u) (hcf : ∀ (args : Array Value) (W : World), (callFunc f args).run P W = .ok (.enter f args) W) (R : Ending → World → Prop) (hc : Calls P f #[u] w R)
    (h : ∀ e w', R e w' → ∃ v, e = .returned v ∧ K (a.put o.dst v) w') : if Region.wanted o (yielded ops a.tmps) = true then Oper.wp P o a w K Q else E :=
  step_call w hgd f #[x] ts ho #[u] (by simp [hx]) hcf R hc h

set_option maxHeartbeats 4000000 in
theorem loose_calls (d : PDeed) (at' : Int) (h1 : d.i64) (ha : I64 at') (w : World) (he : Env w) :
    Calls Tryd.prog 7 #[.agg #[.int .i64 d.kind, .int .i64 d.a, .int .i64 d.b, .int .i64 d.i, .int .i64 d.n], .int .i64 at'] w
      fun e w' => e = .returned (.bool true) ∧ Fr No w w' := by
  have hx := fit_right d
  have fx := fun W => fit_15 d h1 W
  generalize fitP d = x at *
  have px := fun W (h : Env W) => print_right hx W h
  have hb := bytes_size hx
  have hb1 := bytes_pos hx
  have hln := loose_none hx
  have hsh := fun (y : PDeed) (T : ByteArray) (h1 : parseP T.data.toList = some y) (h2 : T.size + 1 = (bytesOf x).size) => shorter h1 h2
  generalize bytesOf x = t at *
  have hk := fun W => pick_15 at' ((t.size : Int) + 1) ha (by omega) (by omega) W
  have hkb := pickZ_bd at' ((t.size : Int) + 1) (by omega)
  have hi := fun W => pick_15 at' (t.size : Int) ha (by omega) (by omega) W
  have hib := pickZ_bd at' (t.size : Int) (by omega)
  obtain ⟨k, hkk⟩ : ∃ k : Nat, pickZ at' ((t.size : Int) + 1) = k := ⟨(pickZ at' ((t.size : Int) + 1)).toNat, by omega⟩
  obtain ⟨i, hii⟩ : ∃ k : Nat, pickZ at' (t.size : Int) = k := ⟨(pickZ at' (t.size : Int)).toNat, by omega⟩
  rw [hkk] at hk hkb
  rw [hii] at hi hib
  have HE := Lib.hid he
  have FX := Lib.hid fx
  have PX := Lib.hid px
  have PK := Lib.hid hk
  have PI := Lib.hid hi
  have LN := Lib.hid (hln k)
  have SH := Lib.hid hsh
  clear he fx px hk hkk hi hii hx h1 ha hln hsh
  obtain ⟨k0, k1⟩ := hkb
  obtain ⟨i0, i1⟩ := hib
  have hz0 : ((t.size : Int) == 0) = false := by rw [beq_eq_false_iff_ne]; omega
  go_enter Tryd.func7, Tryd.ntmps7
  go_wp2_with (first
    | (go_at_call 9; refine (awake_calls _ (HE.out.fr ((Fr.refl _ _).alloc _))).mono ?_; rintro e w1 ⟨rfl, hf1⟩; have hA1 := hf1.whole (Whole.new w 23 [.int .i64 d.kind, .int .i64 d.a, .int .i64 d.b, .int .i64 d.i, .int .i64 d.n]) (fun x => x); have hF1 := ((Fr.refl No w).alloc _).trans hf1; have eA1 := hA1.cell; have lA1 := hA1.lt)
    | (go_at_call 10; (with_reducible refine (FX.out _).mono ?_); rintro e w2 ⟨rfl, hf2⟩; have hF2 := (hF1.trans hf2).alloc (.cells #[.int .i64 x.kind, .int .i64 x.a, .int .i64 x.b, .int .i64 x.i, .int .i64 x.n] 23))
    | (go_at_call 11; (with_reducible refine (PX.out _ (HE.out.fr hF2)).mono ?_); rintro e w3 ⟨rfl, hf3⟩; have hX3 := hf3.whole (Whole.new w2 23 [.int .i64 x.kind, .int .i64 x.a, .int .i64 x.b, .int .i64 x.i, .int .i64 x.n]) (fun x => x); have hF3 := hF2.trans hf3)
    | (go_at_call 17; refine (PK.out _).mono ?_; rintro e w4 ⟨rfl, rfl⟩))
  have eX3 := hX3.cell
  have lX3 := hX3.lt
  clear eA1 lA1 hA1 hf1 hf2 hf3 hF1 hF2
  have g1 := join_one t k hb
  have g2 := join_two t k hb
  have g3 := join_cut t i hb
  have k2 : (k : Int) ≤ t.size := by omega
  have i2 : (i : Int) ≤ t.size := by omega
  have i3 : (i : Int) + 1 ≤ t.size := by omega
  have i4 : (0 : Int) ≤ (i : Int) + 1 := by omega
  have hT : (t.extract 0 i ++ t.extract (i + 1) t.size).size + 1 = t.size := by rw [ByteArray.size_append, ByteArray.size_extract, ByteArray.size_extract]; omega
  have PN := Lib.hid (fun W (h : Env W) => parse_none (blank_small t k hb) LN.out W h)
  generalize t.extract 0 k ++ ⟨#[32]⟩ ++ t.extract k t.size = Z at *
  have HT := Lib.hid hT
  have Hb := Lib.hid hb
  have hw : IntKind.i64.wrap ((i : Int) + 1) = (i : Int) + 1 := IntWalk.i64_in _ (by omega)
  clear hT LN hb hb1 k1 i1
  refine gen_world _ (fun W => Whole W w2.heap.size 23 [.int .i64 x.kind, .int .i64 x.a, .int .i64 x.b, .int .i64 x.i, .int .i64 x.n] ∧ Fr No w W) ⟨hX3, hF3⟩ ?_
  rintro W ⟨hX, hFW⟩
  clear hX3 hF3 eX3 lX3
  generalize w2.heap.size = g at *
  have hcf : ∀ (args : Array Value) (W : World), (callFunc 18 args).run Tryd.prog W = .ok (.enter 18 args) W := fun args W => by kernel_rfl
  go_cut [11] from 42 to 53 (fun v11 wx => v11 = .int .i64 151 ∧ Fr No W wx)
  case first =>
    go_region_with (go_at_call 18; (with_reducible refine (PN.out _ ?_).mono ?_); (· exact HE.out.fr (by first | exact hFW.drewN _ | exact (hFW.drewN _).alloc _ | exact (hFW.alloc _).drewN _ | exact hFW | exact hFW.alloc _)); rintro e w6 ⟨rfl, hf6⟩; obtain ⟨q1, q2, q3⟩ := hf6.cells)
    all_goals
      go_wp2_with fail
      go_meet
      refine ⟨rfl, ?_⟩
      first
        | exact (((Fr.refl No W).drewN _).trans hf6).alloc _
        | exact ((((Fr.refl No W).drewN _).alloc _).trans hf6).set5 (Nat.le_refl _)
        | exact ((((Fr.refl No W).alloc _).drewN _).trans hf6).set5 (Nat.le_refl _)
  case rest =>
    obtain ⟨rfl, hFx⟩ := hcut
    have hXx := hFx.whole hX (fun x => x)
    go_wp2_with (go_at_call 17; refine (PI.out _).mono ?_; rintro e w4 ⟨rfl, rfl⟩)
    refine gen_world _ (fun V => Whole V g 23 [.int .i64 x.kind, .int .i64 x.a, .int .i64 x.b, .int .i64 x.i, .int .i64 x.n] ∧ Fr No w V) ⟨hXx, hFW.trans hFx⟩ ?_
    rintro V ⟨hXV, hFV⟩
    clear hXx hFx hX hFW g1 g2
    go_cut [13] from 60 to 67 (fun v13 wx => v13 = .string (t.extract 0 i ++ t.extract (i + 1) t.size) ∧ ∃ n, wx = V.drewN n)
    case first =>
      go_quiet (fail)
      try (go_wp2_with fail)
      go_meet
      exact ⟨rfl, _, rfl⟩
    case rest =>
      obtain ⟨rfl, nn, rfl⟩ := hcut
      have hXn : Whole (V.drewN nn) g 23 [.int .i64 x.kind, .int .i64 x.a, .int .i64 x.b, .int .i64 x.i, .int .i64 x.n] := hXV
      have hFn := hFV.drewN nn
      clear g3 hw i0 i2 i3 i4 k0 k2
      have hT := HT.out
      generalize t.extract 0 i ++ t.extract (i + 1) t.size = T at *
      have HT2 := Lib.hid hT
      have hts : T.size ≤ 200 := by have := Hb.out; omega
      have Hts := Lib.hid hts
      clear hT hts HT
      cases hp : parseP T.data.toList with
      | none =>
        have Hp := Lib.hid hp
        clear hp
        go_wp2_with (go_at_call 18; refine (parse_none Hts.out Hp.out _ (HE.out.fr hFn)).mono ?_; rintro e w6 ⟨rfl, hf6⟩)
        go_ret
        exact ⟨rfl, (hFn.trans hf6).alloc _⟩
      | some y =>
        have hyx := SH.out y T hp HT2.out
        have hqq := eq_deed y x
        rw [hyx] at hqq
        have Hp := Lib.hid hp
        clear hp hyx
        go_wp2_with (first
          | (go_at_call 18; refine (parse_some Hts.out Hp.out _ (HE.out.fr hFn)).mono ?_; rintro e w6 ⟨rfl, hf6⟩; have hX6 := (hf6.whole hXn (fun x => x)).alloc (.cells #[.int .i64 y.kind, .int .i64 y.a, .int .i64 y.b, .int .i64 y.i, .int .i64 y.n] 23); have hF6 := (hFn.trans hf6).alloc (.cells #[.int .i64 y.kind, .int .i64 y.a, .int .i64 y.b, .int .i64 y.i, .int .i64 y.n] 23))
          | (go_at_call 11; refine (print_some Hp.out _ (HE.out.fr hF6)).mono ?_; rintro e w7 ⟨rfl, hf7⟩; have hY7 := hf7.whole (Whole.new w6 23 [.int .i64 y.kind, .int .i64 y.a, .int .i64 y.b, .int .i64 y.i, .int .i64 y.n]) (fun x => x); have eY7 := hY7.cell; have lY7 := hY7.lt; have hX7 := hf7.whole hX6 (fun x => x); have eX7 := hX7.cell; have lX7 := hX7.lt))
        go_ret
        exact ⟨rfl, hF6.trans hf7⟩
end Go.Proofs.YtbjknkgefpeohaaDoor
