/- Contract of the laws' first calls, whose answers are fixed: they are as the document has them. Conditions: the tables and errors of strconv. -/
import Derived.Test.YtbjknkgefpeohaaDoorParse
import Derived.Laws.StructEq
import Derived.Laws.Tables
namespace Go.Proofs.YtbjknkgefpeohaaDoor
open Go.RowKit
set_option maxRecDepth 100000
attribute [local go_sem ↓] Go.wp_at_zero Go.wp_at_succ

theorem BlockAt.of_whole {w : World} {b : Nat} {t : TypeId} {l : List PDeed} (h : Whole w b t (deedRow l)) (hl : l.length ≤ Big) : BlockAt w (.slice (some ⟨b, 0, none⟩) l.length l.length) l :=
  ⟨_, _, rfl, hl, Row.of_whole h 5 _ (deedRow_length l)⟩
theorem Reads.of_whole {α : Type} {R : World → Value → α → Prop} {w : World} {b : Nat} {t : TypeId} {vs : List Value} {l : List α} (h : Whole w b t vs) (hv : vs.length = l.length) (hl : l.length ≤ Big)
    (hR : ∀ (i : Nat) u x, vs[i]? = some u → l[i]? = some x → R w u x) : Reads R w (.slice (some ⟨b, 0, none⟩) l.length l.length) l :=
  ⟨_, _, vs, rfl, hl, Row.of_whole h 1 _ (by omega), hR⟩

theorem Whole.new4 (w : World) (T : TypeId) (cs : List Value) (o o' o'' o3 : Obj) : Whole (((((w.alloc o).alloc o').alloc o'').alloc o3).alloc (.cells cs.toArray T)) (w.heap.size + 1 + 1 + 1 + 1) T cs := by simpa using Whole.new ((((w.alloc o).alloc o').alloc o'').alloc o3) T cs
/-- A program of one thread with two blocks. -/
theorem prog_two {W : World} {b1 b2 b3 b4 : Nat} {t1 t2 t3 t4 : TypeId} {l1 l2 : List PDeed} (h1 : Whole W b1 t1 (deedRow l1)) (h2 : Whole W b2 t2 (deedRow l2)) (hl1 : l1.length ≤ Big) (hl2 : l2.length ≤ Big)
    (h3 : Whole W b3 t3 [.slice (some ⟨b1, 0, none⟩) l1.length l1.length, .slice (some ⟨b2, 0, none⟩) l2.length l2.length]) (h4 : Whole W b4 t4 [.slice (some ⟨b3, 0, none⟩) 2 2]) : ProgAt W (.slice (some ⟨b4, 0, none⟩) 1 1) [[l1, l2]] := by
  refine Reads.of_whole (l := [[l1, l2]]) h4 rfl (by simp [Big]) ?_
  intro i u x hu hx
  match i, hu, hx with
  | 0, hu, hx =>
    simp at hu hx
    subst hu hx
    refine Reads.of_whole (l := [l1, l2]) h3 rfl (by simp [Big]) ?_
    intro j v y hv hy
    match j, hv, hy with
    | 0, hv, hy => simp at hv hy; subst hv hy; exact .of_whole h1 hl1
    | 1, hv, hy => simp at hv hy; subst hv hy; exact .of_whole h2 hl2
    | n + 2, hv, _ => simp at hv
  | n + 1, hu, _ => simp at hu

theorem eq_three (a0 a1 a2 b0 b1 b2 : Int) (w : World) : (Op.equalIn 10000 30 (.agg #[.int .i64 a0, .int .i64 a1, .int .i64 a2]) (.agg #[.int .i64 b0, .int .i64 b1, .int .i64 b2])).run Tryd.prog w =
    .ok (a0 == b0 && (a1 == b1 && a2 == b2)) w := by
  have u3 := Tryd.underlying3
  have a3' := Tryd.isAgg3
  have z3 := Tryd.sizeOf3
  rw [show (10000 : Nat) = 9999 + 1 from rfl, Op.equalIn]
  simp only [Sem.run_bind, run_underlying Tryd.underlying30, Result.andThen_ok]
  simp only [Std.Legacy.Range.forIn_eq_forIn_range', Std.Legacy.Range.size, Nat.sub_zero, Nat.add_sub_cancel, Nat.div_one, List.range'_succ, List.range'_zero, List.forIn_cons, List.forIn_nil]
  go_simp
  by_cases h0 : a0 = b0
  case neg => simp [h0]
  by_cases h1 : a1 = b1
  case neg => simp [h0, h1]
  by_cases h2 : a2 = b2
  case neg => simp [h0, h1, h2]
  simp [h0, h1, h2]
theorem same_three (a b c : Int) : ∀ W, (Op.equalIn 10000 30 (.agg #[.int .i64 a, .int .i64 b, .int .i64 c]) (.agg #[.int .i64 a, .int .i64 b, .int .i64 c])).run Tryd.prog W = .ok true W := fun W => by
  rw [eq_three]
  simp

/-! ## What is fixed -/
def d0 : PDeed := ⟨5, 1, 2, 0, 0⟩
theorem itoa_one (n : Nat) (h : n < 10) : Lib.itoa (n : Int) = [UInt8.ofNat (48 + n)] := by
  unfold Lib.itoa
  rw [if_neg (by omega), Int.toNat_natCast, Lib.decDigits, dif_pos h]
theorem print_d0' : printP d0 = [112, 117, 116, 32, 49, 32, 48, 32, 50] := by
  have hr : rightP d0 = true := by decide
  unfold printP
  rw [if_pos hr]
  unfold textOf wordsP
  have e : (partsOf d0.kind).map (fun p => Lib.itoa (d0.get p.k)) = [Lib.itoa ((1 : Nat) : Int), Lib.itoa ((0 : Nat) : Int), Lib.itoa ((2 : Nat) : Int)] := rfl
  rw [e, itoa_one 1 (by decide), itoa_one 0 (by decide), itoa_one 2 (by decide)]
  rfl
theorem text_d0 : textOf d0 = [112, 117, 116, 32, 49, 32, 48, 32, 50] := by
  have h := print_d0'
  unfold printP at h
  rw [if_pos (by decide)] at h
  exact h
theorem parse_d0' : parseP [112, 117, 116, 32, 49, 32, 48, 32, 50] = some d0 := by
  rw [← text_d0]
  exact parse_text (by decide)
theorem parse_no' : parseP [112, 117, 116, 32, 49, 32, 48] = none := by
  cases hp : parseP [112, 117, 116, 32, 49, 32, 48] with
  | none => rfl
  | some e =>
    exfalso
    obtain ⟨hr, ht⟩ := parseP_inv hp
    have hw := words_text hr
    rw [ht] at hw
    have hk := right_kind hr
    have h1 : wordsOf [112, 117, 116, 32, 49, 32, 48] = [[112, 117, 116], [49], [48]] := by
      have a : wordsOf [112, 117, 116, 32, 49, 32, 48] = [112, 117, 116] :: wordsOf [49, 32, 48] := wordsOf_cons [112, 117, 116] [49, 32, 48] (by decide)
      have b : wordsOf [49, 32, 48] = [49] :: wordsOf [48] := wordsOf_cons [49] [48] (by decide)
      rw [a, b, wordsOf_one [48] (by decide)]
    rw [h1] at hw
    have h2 : wordOf 5 = wordOf e.kind := by
      unfold wordsP at hw
      injection hw
    have h3 := word_inj 5 (by decide) _ hk h2
    have h4 := wordsP_length e
    rw [← hw, ← h3] at h4
    exact absurd h4 (by decide)

theorem print_d0 (w : World) (he : Env w) : Calls Tryd.prog 11 #[.agg #[.int .i64 5, .int .i64 1, .int .i64 2, .int .i64 0, .int .i64 0]] w
    fun e w' => e = .returned (.tuple #[.string ⟨#[112, 117, 116, 32, 49, 32, 48, 32, 50]⟩, .int .i64 0]) ∧ Fr No w w' := by
  refine (print_calls d0 w he).mono ?_
  rintro e w' ⟨rfl, hf⟩
  rw [print_d0', if_pos (by decide)]
  exact ⟨rfl, hf⟩
theorem parse_d0 (w : World) (he : Env w) : Calls Tryd.prog 18 #[.string ⟨#[112, 117, 116, 32, 49, 32, 48, 32, 50]⟩] w
    fun e w' => e = .returned (.tuple #[.agg #[.int .i64 5, .int .i64 1, .int .i64 2, .int .i64 0, .int .i64 0], .int .i64 0]) ∧ Fr No w w' := by
  refine (parse_calls _ (by decide) w he).mono ?_
  rintro e w' ⟨rfl, hf⟩
  refine ⟨?_, hf⟩
  unfold parseD parseE
  rw [parse_d0']
  rfl
theorem parse_no (w : World) (he : Env w) : Calls Tryd.prog 18 #[.string ⟨#[112, 117, 116, 32, 49, 32, 48]⟩] w
    fun e w' => e = .returned (.tuple #[.agg #[.int .i64 0, .int .i64 0, .int .i64 0, .int .i64 0, .int .i64 0], .int .i64 151]) ∧ Fr No w w' := by
  refine (parse_calls _ (by decide) w he).mono ?_
  rintro e w' ⟨rfl, hf⟩
  refine ⟨?_, hf⟩
  unfold parseD parseE
  rw [parse_no']
  rfl
theorem check_d0 (A : Option Addr) (c : Nat) (w : World) (h : ProgAt w (.slice A 1 c) [[[d0], []]]) : Calls Tryd.prog 13 #[.slice A 1 c] w
    fun e w' => e = .returned (.tuple #[.int .i64 150, .agg #[.int .i64 0, .int .i64 1, .int .i64 0]]) ∧ Fr No w w' := by
  refine (check_calls [[[d0], []]] A c w (by decide) h).mono ?_
  rintro e w' ⟨rfl, hf⟩
  exact ⟨rfl, hf⟩
theorem right_d0 (w : World) : Calls Tryd.prog 15 #[.agg #[.int .i64 5, .int .i64 1, .int .i64 2, .int .i64 0, .int .i64 0]] w
    fun e w' => e = .returned (.bool true) ∧ Fr No w w' := by
  refine (right_calls d0 w).mono ?_
  rintro e w' ⟨rfl, hf⟩
  exact ⟨rfl, hf⟩

set_option maxHeartbeats 4000000 in
theorem awake_calls (w : World) (he : Env w) : Calls Tryd.prog 9 #[] w fun e w' => e = .returned (.bool true) ∧ Fr No w w' := by
  have HE := Lib.hid he
  clear he
  have hq3 := same_three 0 1 0
  go_enter Tryd.func9, Tryd.ntmps9
  go_wp2_with (first
    | (go_at_call 11; refine (print_d0 _ (HE.out.fr ((Fr.refl _ _).alloc _))).mono ?_; rintro e w1 ⟨rfl, hf1⟩; have hS1 := hf1.whole (Whole.new w 23 [.int .i64 5, .int .i64 1, .int .i64 2, .int .i64 0, .int .i64 0]) (fun x => x); have hF1 := ((Fr.refl No w).alloc _).trans hf1)
    | (go_at_call 18; refine (parse_no _ (HE.out.fr (hF2.alloc _))).mono ?_; rintro e w3 ⟨rfl, hf3⟩; have hS3 := hf3.whole (hS2.alloc _) (fun x => x); have hT3 := hf3.whole (Whole.new w2 23 [.int .i64 5, .int .i64 1, .int .i64 2, .int .i64 0, .int .i64 0]) (fun x => x); have hF3 := (hF2.alloc _).trans hf3; have eS3 := hS3.cell; have eT3 := hT3.cell; have lS3 := hS3.lt; have lT3 := hT3.lt)
    | (go_at_call 18; refine (parse_d0 _ (HE.out.fr hF1)).mono ?_; rintro e w2 ⟨rfl, hf2⟩; have hS2 := hf2.whole hS1 (fun x => x); have hF2 := hF1.trans hf2)
    | (go_at_call 13; refine (check_d0 _ _ _ (prog_two (l1 := [d0]) (l2 := []) ((((Whole.new1 w3 23 [.int .i64 5, .int .i64 1, .int .i64 2, .int .i64 0, .int .i64 0] _).alloc _).alloc _).alloc _) (((Whole.new2 w3 23 [] _ _).alloc _).alloc _) (by decide) (by decide) ((Whole.new3 w3 41 _ _ _ _).alloc _) (Whole.new4 w3 42 _ _ _ _ _))).mono ?_; rintro e w4 ⟨rfl, hf4⟩; have hS4 := hf4.whole (((((hS3.alloc _).alloc _).alloc _).alloc _).alloc _) (fun x => x); have hT4 := hf4.whole (((((hT3.alloc _).alloc _).alloc _).alloc _).alloc _) (fun x => x); have eS4 := hS4.cell; have eT4 := hT4.cell; have lS4 := hS4.lt; have lT4 := hT4.lt)
    | (go_at_call 15; refine (right_d0 _).mono ?_; rintro e w5 ⟨rfl, hf5⟩))
  go_ret
  exact ⟨rfl, ((((((hF3.alloc _).alloc _).alloc _).alloc _).alloc _).trans hf4).alloc _ |>.trans hf5⟩
end Go.Proofs.YtbjknkgefpeohaaDoor
