/- ProgramForth: its walk. Conditions: a deed of 64 bits, texts as Go has them; the tables and errors of strconv. -/
import Derived.Test.YtbjknkgefpeohaaDoorBack
import Derived.BigRegion
namespace Go.Proofs.YtbjknkgefpeohaaDoor
open Go.RowKit
set_option maxRecDepth 100000
attribute [local go_sem ↓] Go.wp_at_zero Go.wp_at_succ

theorem parse_none {z : ByteArray} (hz : z.size ≤ 200) (hp : parseP z.data.toList = none) (w : World) (he : Env w) : Calls Tryd.prog 18 #[.string z] w
    fun e w' => e = .returned (.tuple #[.agg #[.int .i64 0, .int .i64 0, .int .i64 0, .int .i64 0, .int .i64 0], .int .i64 151]) ∧ Fr No w w' := by
  refine (parse_calls z (by omega) w he).mono ?_
  rintro e w' ⟨rfl, hf⟩
  refine ⟨?_, hf⟩
  unfold parseD parseE
  rw [hp]
  rfl
theorem parse_some {z : ByteArray} {x : PDeed} (hz : z.size ≤ 200) (hp : parseP z.data.toList = some x) (w : World) (he : Env w) : Calls Tryd.prog 18 #[.string z] w
    fun e w' => e = .returned (.tuple #[.agg #[.int .i64 x.kind, .int .i64 x.a, .int .i64 x.b, .int .i64 x.i, .int .i64 x.n], .int .i64 0]) ∧ Fr No w w' := by
  refine (parse_calls z (by omega) w he).mono ?_
  rintro e w' ⟨rfl, hf⟩
  refine ⟨?_, hf⟩
  unfold parseD parseE
  rw [hp]
  rfl
theorem print_some {z : ByteArray} {x : PDeed} (hp : parseP z.data.toList = some x) (w : World) (he : Env w) : Calls Tryd.prog 11 #[.agg #[.int .i64 x.kind, .int .i64 x.a, .int .i64 x.b, .int .i64 x.i, .int .i64 x.n]] w
    fun e w' => e = .returned (.tuple #[.string z, .int .i64 0]) ∧ Fr No w w' := by
  obtain ⟨hr, ht⟩ := parseP_inv hp
  refine (print_right hr w he).mono ?_
  rintro e w' ⟨rfl, hf⟩
  have hb : bytesOf x = z := by
    unfold bytesOf
    rw [ht]
  rw [hb]
  exact ⟨rfl, hf⟩
theorem right_some {z : ByteArray} {x : PDeed} (hp : parseP z.data.toList = some x) (w : World) : Calls Tryd.prog 15 #[.agg #[.int .i64 x.kind, .int .i64 x.a, .int .i64 x.b, .int .i64 x.i, .int .i64 x.n]] w
    fun e w' => e = .returned (.bool true) ∧ Fr No w w' := by
  obtain ⟨hr, ht⟩ := parseP_inv hp
  refine (right_calls x w).mono ?_
  rintro e w' ⟨rfl, hf⟩
  rw [hr]
  exact ⟨rfl, hf⟩
theorem bytes_size {d : PDeed} (h : rightP d = true) : (bytesOf d).size ≤ 71 := by
  have := textOf_len h
  show (textOf d).toArray.size ≤ 71
  rw [List.size_toArray]
  exact this

set_option maxHeartbeats 4000000 in
theorem forth_calls (s : ByteArray) (d : PDeed) (at' : Int) (more : ByteArray) (_hs : s.size ≤ reachBytes) (h1 : d.i64) (ha : I64 at') (hm : more.size ≤ reachBytes) (w : World) (he : Env w) :
    Calls Tryd.prog 5 #[.string s, .agg #[.int .i64 d.kind, .int .i64 d.a, .int .i64 d.b, .int .i64 d.i, .int .i64 d.n], .int .i64 at', .string more] w
      fun e w' => e = .returned (.bool true) ∧ Fr No w w' := by
  have hm2 : more.size ≤ 140737488351232 := hm
  clear hm
  have hx := fit_right d
  have fx := fun W => fit_15 d h1 W
  generalize fitP d = x at *
  have px := fun W (h : Env W) => print_right hx W h
  have hb := bytes_size hx
  generalize bytesOf x = t at *
  have hk := fun W => pick_15 at' ((t.size : Int) + 1) ha (by omega) (by omega) W
  have hkb := pickZ_bd at' ((t.size : Int) + 1) (by omega)
  obtain ⟨k, hkk⟩ : ∃ k : Nat, pickZ at' ((t.size : Int) + 1) = k := ⟨(pickZ at' ((t.size : Int) + 1)).toNat, by omega⟩
  rw [hkk] at hk hkb
  have HE := Lib.hid he
  have FX := Lib.hid fx
  have PX := Lib.hid px
  have PK := Lib.hid hk
  clear he fx px hk hkk hx h1 ha
  obtain ⟨k0, k1⟩ := hkb
  go_enter Tryd.func5, Tryd.ntmps5
  go_wp2_with (first
    | (go_at_call 9; refine (awake_calls _ (HE.out.fr ((Fr.refl _ _).alloc _))).mono ?_; rintro e w1 ⟨rfl, hf1⟩; have hA1 := hf1.whole (Whole.new w 23 [.int .i64 d.kind, .int .i64 d.a, .int .i64 d.b, .int .i64 d.i, .int .i64 d.n]) (fun x => x); have hF1 := ((Fr.refl No w).alloc _).trans hf1; have eA1 := hA1.cell; have lA1 := hA1.lt)
    | (go_at_call 10; (with_reducible refine (FX.out _).mono ?_); rintro e w2 ⟨rfl, hf2⟩; have hF2 := hF1.trans hf2)
    | (go_at_call 11; (with_reducible refine (PX.out _ (HE.out.fr hF2)).mono ?_); rintro e w3 ⟨rfl, hf3⟩; have hF3 := hF2.trans hf3)
    | (go_at_call 17; refine (PK.out _).mono ?_; rintro e w4 ⟨rfl, rfl⟩))
  clear eA1 lA1 hA1 hf1 hf2 hf3
  obtain ⟨m, hmm⟩ : ∃ m : Nat, m = min (k + more.size) t.size := ⟨_, rfl⟩
  have m0 : (m : Int) ≤ t.size := by omega
  have m1 : (0 : Int) ≤ m := by omega
  have g1 : ∀ W, (Op.stringOp .add (t.extract 0 k) more).run Tryd.prog W = .ok (.string (t.extract 0 k ++ more)) W := fun W => run_string_add_sum W _ _ (by rw [ByteArray.size_extract]; omega)
  have g2 : ∀ W, (Op.stringOp .add (t.extract 0 k ++ more) (t.extract m t.size)).run Tryd.prog W = .ok (.string (t.extract 0 k ++ more ++ t.extract m t.size)) W := fun W => run_string_add_sum W _ _ (by rw [ByteArray.size_append, ByteArray.size_extract, ByteArray.size_extract]; omega)
  have g3 : ∀ W, (Op.stringOp .add (t.extract 0 k ++ more) (t.extract k t.size)).run Tryd.prog W = .ok (.string (t.extract 0 k ++ more ++ t.extract k t.size)) W := fun W => run_string_add_sum W _ _ (by rw [ByteArray.size_append, ByteArray.size_extract, ByteArray.size_extract]; omega)
  have hmin : min ((k : Int) + (more.size : Int)) (t.size : Int) = (m : Int) := by omega
  have hwr : IntKind.i64.wrap ((k : Int) + (more.size : Int)) = (k : Int) + (more.size : Int) := IntWalk.i64_in _ (by omega)
  have k2 : (k : Int) ≤ t.size := by omega
  clear hmm hm2 hb k1
  refine gen_world _ (fun W => Fr No w W) hF3 ?_
  intro W hFW
  clear hF3 hF2 hF1
  go_cut [56, 57, 58] from 31 to 58 (fun v56 v57 v58 wx => ∃ z1 z2 : ByteArray, v56 = .slice (some ⟨W.heap.size, 0, none⟩) 3 3 ∧ v57 = .int .i64 3 ∧ v58 = .int .i64 0 ∧ Whole wx W.heap.size 9 [.string s, .string z1, .string z2] ∧ Fr No W wx)
  case first =>
    go_region
    all_goals
      go_wp2_with fail
      go_meet
      exact ⟨_, _, rfl, rfl, rfl, (Whole.new W 9 _).drew, ((Fr.refl No W).alloc _).drew⟩
  case rest =>
    obtain ⟨z1, z2, rfl, rfl, rfl, hZ, hFx⟩ := hcut
    clear g1 g2 g3 hmin hwr m0 m1 k0 k2
    go_wp2_with fail
    generalize W.heap.size = g at *
    go_loopw [58] (fun i wr => ∃ j : Nat, j ≤ 3 ∧ i = .int .i64 j ∧ Fr No wc wr) (fun i _ => 3 - (intOf i).toNat)
    case atStart => exact ⟨0, by omega, rfl, Fr.refl _ _⟩
    case round =>
      obtain ⟨wq, hwq⟩ : ∃ x, x = wr := ⟨_, rfl⟩
      subst hwq
      obtain ⟨j, hj, rfl, hF⟩ := hrel
      have hFq := (hFW.trans hFx).trans hF
      by_cases hlt : j < 3
      · obtain ⟨z, hz⟩ : ∃ z : ByteArray, ([.string s, .string z1, .string z2] : List Value)[j]? = some (.string z) := by
          rcases (show j = 0 ∨ j = 1 ∨ j = 2 from by omega) with rfl | rfl | rfl
          · exact ⟨s, rfl⟩
          · exact ⟨z1, rfl⟩
          · exact ⟨z2, rfl⟩
        have eZ := ((hF.whole hZ (fun x => x)).cell j).trans hz
        clear hz
        have i1 : (0 : Int) ≤ (j : Int) := by omega
        have i2 : (j : Int) < 3 := by omega
        by_cases h200 : 200 < z.size
        · have h201 : (200 : Int) < (z.size : Int) := by omega
          go_wp2_with fail
          exact ⟨⟨j + 1, by omega, by go_num, hF⟩, by simp [intOf]; omega⟩
        · have h201 : decide ((200 : Int) < (z.size : Int)) = false := by rw [decide_eq_false_iff_not]; omega
          have hz2 : z.size ≤ 200 := by omega
          have Hz2 := Lib.hid hz2
          clear h200 hz2
          cases hp : parseP z.data.toList with
          | none =>
            have Hp := Lib.hid hp
            clear hp
            go_wp2_with (go_at_call 18; refine (parse_none Hz2.out Hp.out _ (HE.out.fr hFq)).mono ?_; rintro e w6 ⟨rfl, hf6⟩)
            exact ⟨⟨j + 1, by omega, by go_num, (hF.trans hf6).alloc _⟩, by simp [intOf]; omega⟩
          | some y =>
            have Hp := Lib.hid hp
            clear hp
            go_wp2_with (first
              | (go_at_call 18; refine (parse_some Hz2.out Hp.out _ (HE.out.fr hFq)).mono ?_; rintro e w6 ⟨rfl, hf6⟩; have hF6 := (hFq.trans hf6).alloc (.cells #[.int .i64 y.kind, .int .i64 y.a, .int .i64 y.b, .int .i64 y.i, .int .i64 y.n] 23))
              | (go_at_call 11; refine (print_some Hp.out _ (HE.out.fr hF6)).mono ?_; rintro e w7 ⟨rfl, hf7⟩; have hY7 := hf7.whole (Whole.new w6 23 [.int .i64 y.kind, .int .i64 y.a, .int .i64 y.b, .int .i64 y.i, .int .i64 y.n]) (fun x => x); have eY7 := hY7.cell; have lY7 := hY7.lt)
              | (go_at_call 15; refine (right_some Hp.out _).mono ?_; rintro e w8 ⟨rfl, hf8⟩))
            exact ⟨⟨j + 1, by omega, by go_num, (((hF.trans hf6).alloc _).trans hf7).trans hf8⟩, by simp [intOf]; omega⟩
      · go_wp2_with fail
        go_ret
        exact ⟨rfl, hFq⟩
end Go.Proofs.YtbjknkgefpeohaaDoor
