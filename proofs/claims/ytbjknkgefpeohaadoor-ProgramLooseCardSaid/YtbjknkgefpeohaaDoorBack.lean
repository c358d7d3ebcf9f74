/- ProgramBack: its walk. Conditions: deeds of 64 bits; the tables and errors of strconv. -/
import Derived.Test.YtbjknkgefpeohaaDoorAwake
import Derived.Test.YtbjknkgefpeohaaDoorFitR
namespace Go.Proofs.YtbjknkgefpeohaaDoor
open Go.RowKit
set_option maxRecDepth 100000
attribute [local go_sem ↓] Go.wp_at_zero Go.wp_at_succ

/-- A deed's text, as Go's string. -/
def bytesOf (d : PDeed) : ByteArray := ⟨(textOf d).toArray⟩
theorem print_right {d : PDeed} (hr : rightP d = true) (w : World) (he : Env w) : Calls Tryd.prog 11 #[.agg #[.int .i64 d.kind, .int .i64 d.a, .int .i64 d.b, .int .i64 d.i, .int .i64 d.n]] w
    fun e w' => e = .returned (.tuple #[.string (bytesOf d), .int .i64 0]) ∧ Fr No w w' := by
  refine (print_calls d w he).mono ?_
  rintro e w' ⟨rfl, hf⟩
  have hp : printP d = textOf d := by unfold printP; rw [hr]; rfl
  rw [hp, if_pos hr]
  exact ⟨rfl, hf⟩
theorem parse_back {d : PDeed} (hr : rightP d = true) (w : World) (he : Env w) : Calls Tryd.prog 18 #[.string (bytesOf d)] w
    fun e w' => e = .returned (.tuple #[.agg #[.int .i64 d.kind, .int .i64 d.a, .int .i64 d.b, .int .i64 d.i, .int .i64 d.n], .int .i64 0]) ∧ Fr No w w' := by
  have hl := textOf_len hr
  refine (parse_calls (bytesOf d) (by show (textOf d).toArray.size < _; rw [List.size_toArray]; omega) w he).mono ?_
  rintro e w' ⟨rfl, hf⟩
  have hp : parseP (bytesOf d).data.toList = some d := parse_text hr
  refine ⟨?_, hf⟩
  unfold parseD parseE
  rw [hp]
  rfl
theorem bytes_inj {c d : PDeed} (hc : rightP c = true) (hd : rightP d = true) (h : bytesOf c = bytesOf d) : c = d := by
  refine text_inj hc hd ?_
  have := congrArg (fun b : ByteArray => b.data.toList) h
  exact this
theorem eq_deed (c d : PDeed) (w : World) : (Op.equalIn 10000 23 (.agg #[.int .i64 c.kind, .int .i64 c.a, .int .i64 c.b, .int .i64 c.i, .int .i64 c.n]) (.agg #[.int .i64 d.kind, .int .i64 d.a, .int .i64 d.b, .int .i64 d.i, .int .i64 d.n])).run Tryd.prog w =
    .ok (decide (c = d)) w := by
  have u3 := Tryd.underlying3
  have a3' := Tryd.isAgg3
  have z3 := Tryd.sizeOf3
  have e : decide (c = d) = (c.kind == d.kind && (c.a == d.a && (c.b == d.b && (c.i == d.i && c.n == d.n)))) := by
    obtain ⟨c0, c1, c2, c3, c4⟩ := c
    obtain ⟨d0, d1, d2, d3, d4⟩ := d
    rw [Bool.eq_iff_iff]
    simp
  rw [e]
  go_simp
  by_cases h0 : c.kind = d.kind
  case neg => simp [h0]
  by_cases h1 : c.a = d.a
  case neg => simp [h0, h1]
  by_cases h2 : c.b = d.b
  case neg => simp [h0, h1, h2]
  by_cases h3 : c.i = d.i
  case neg => simp [h0, h1, h2, h3]
  by_cases h4 : c.n = d.n
  case neg => simp [h0, h1, h2, h3, h4]
  simp [h0, h1, h2, h3, h4]

set_option maxHeartbeats 4000000 in
theorem back_calls (one two : PDeed) (h1 : one.i64) (h2 : two.i64) (w : World) (he : Env w) :
    Calls Tryd.prog 4 #[.agg #[.int .i64 one.kind, .int .i64 one.a, .int .i64 one.b, .int .i64 one.i, .int .i64 one.n], .agg #[.int .i64 two.kind, .int .i64 two.a, .int .i64 two.b, .int .i64 two.i, .int .i64 two.n]] w
      fun e w' => e = .returned (.bool true) ∧ Fr No w w' := by
  have hx := fit_right one
  have hy := fit_right two
  have fx := fun W => fit_15 one h1 W
  have fy := fun W => fit_15 two h2 W
  generalize fitP one = x at *
  generalize fitP two = y at *
  have px := fun W (h : Env W) => print_right hx W h
  have py := fun W (h : Env W) => print_right hy W h
  have qx := fun W (h : Env W) => parse_back hx W h
  have hxy : bytesOf x = bytesOf y → x = y := bytes_inj hx hy
  have hyx : x = y → bytesOf x = bytesOf y := fun h => by rw [h]
  generalize bytesOf x = sx at *
  generalize bytesOf y = sy at *
  have HE := Lib.hid he
  have FX := Lib.hid fx
  have FY := Lib.hid fy
  have PX := Lib.hid px
  have PY := Lib.hid py
  have QX := Lib.hid qx
  clear he fx fy px py qx hx hy h1 h2
  have hcs : (ByteArray.toList sx == ByteArray.toList sy) = decide (x = y) := by
    by_cases h : x = y
    · rw [hyx h]; simp [h]
    · rw [decide_eq_false h, beq_eq_false_iff_ne, ByteArray.toList_eq, ByteArray.toList_eq]
      intro e
      refine h (hxy ?_)
      obtain ⟨⟨l1⟩⟩ := sx
      obtain ⟨⟨l2⟩⟩ := sy
      simp only at e
      rw [e]
  have hxx := eq_deed x x
  simp only [decide_true] at hxx
  have hqq := eq_deed x y
  generalize decide (x = y) = b at *
  clear hxy hyx
  go_enter Tryd.func4, Tryd.ntmps4
  go_wp2_with (first
    | (go_at_call 9; refine (awake_calls _ (HE.out.fr (((Fr.refl _ _).alloc _).alloc _))).mono ?_; rintro e w1 ⟨rfl, hf1⟩; have hA1 := hf1.whole ((Whole.new w 23 [.int .i64 one.kind, .int .i64 one.a, .int .i64 one.b, .int .i64 one.i, .int .i64 one.n]).alloc _) (fun x => x); have hB1 := hf1.whole (Whole.new1 w 23 [.int .i64 two.kind, .int .i64 two.a, .int .i64 two.b, .int .i64 two.i, .int .i64 two.n] _) (fun x => x); have hF1 := (((Fr.refl No w).alloc _).alloc _).trans hf1; have eA1 := hA1.cell; have lA1 := hA1.lt)
    | (go_at_call 10; (with_reducible refine (FX.out _).mono ?_); rintro e w2 ⟨rfl, hf2⟩; have hB2 := hf2.whole hB1 (fun x => x); have hF2 := (hF1.trans hf2).alloc (.cells #[.int .i64 x.kind, .int .i64 x.a, .int .i64 x.b, .int .i64 x.i, .int .i64 x.n] 23); have eB2 := hB2.cell; have lB2 := hB2.lt)
    | (go_at_call 10; (with_reducible refine (FY.out _).mono ?_); rintro e w3 ⟨rfl, hf3⟩; have hX3 := hf3.whole (Whole.new w2 23 [.int .i64 x.kind, .int .i64 x.a, .int .i64 x.b, .int .i64 x.i, .int .i64 x.n]) (fun x => x); have hF3 := (hF2.trans hf3).alloc (.cells #[.int .i64 y.kind, .int .i64 y.a, .int .i64 y.b, .int .i64 y.i, .int .i64 y.n] 23); have eX3 := hX3.cell; have lX3 := hX3.lt)
    | (go_at_call 11; (with_reducible refine (PX.out _ (HE.out.fr hF3)).mono ?_); rintro e w4 ⟨rfl, hf4⟩; have hX4 := hf4.whole (hX3.alloc _) (fun x => x); have hY4 := hf4.whole (Whole.new w3 23 [.int .i64 y.kind, .int .i64 y.a, .int .i64 y.b, .int .i64 y.i, .int .i64 y.n]) (fun x => x); have hF4 := hF3.trans hf4; have eX4 := hX4.cell; have lX4 := hX4.lt; have eY4 := hY4.cell; have lY4 := hY4.lt)
    | (go_at_call 11; (with_reducible refine (PY.out _ (HE.out.fr hF4)).mono ?_); rintro e w5 ⟨rfl, hf5⟩; have hX5 := hf5.whole hX4 (fun x => x); have hY5 := hf5.whole hY4 (fun x => x); have hF5 := hF4.trans hf5)
    | (go_at_call 18; (with_reducible refine (QX.out _ (HE.out.fr hF5)).mono ?_); rintro e w6 ⟨rfl, hf6⟩; have hX6 := hf6.whole hX5 (fun x => x); have hY6 := hf6.whole hY5 (fun x => x); have hF6 := hF5.trans hf6; have eX6 := hX6.cell; have lX6 := hX6.lt; have eY6 := hY6.cell; have lY6 := hY6.lt))
  go_ret
  exact ⟨rfl, hF6.alloc _⟩
end Go.Proofs.YtbjknkgefpeohaaDoor
