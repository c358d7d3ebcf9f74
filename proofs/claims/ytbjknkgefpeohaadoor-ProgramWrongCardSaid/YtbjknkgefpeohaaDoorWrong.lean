/- ProgramWrong: its walk. Conditions: a deed of 64 bits; the tables and errors of strconv. -/
import Derived.Test.YtbjknkgefpeohaaDoorBack
namespace Go.Proofs.YtbjknkgefpeohaaDoor
open Go.RowKit
set_option maxRecDepth 100000
attribute [local go_sem ↓] Go.wp_at_zero Go.wp_at_succ

/-- A program of one thread with one block. -/
theorem prog_one {W : World} {b1 b3 b4 : Nat} {t1 t3 t4 : TypeId} {l1 : List PDeed} (h1 : Whole W b1 t1 (deedRow l1)) (hl1 : l1.length ≤ Big)
    (h3 : Whole W b3 t3 [.slice (some ⟨b1, 0, none⟩) l1.length l1.length]) (h4 : Whole W b4 t4 [.slice (some ⟨b3, 0, none⟩) 1 1]) : ProgAt W (.slice (some ⟨b4, 0, none⟩) 1 1) [[l1]] := by
  refine Reads.of_whole (l := [[l1]]) h4 rfl (by simp [Big]) ?_
  intro i u x hu hx
  match i, hu, hx with
  | 0, hu, hx =>
    simp at hu hx
    subst hu hx
    refine Reads.of_whole (l := [l1]) h3 rfl (by simp [Big]) ?_
    intro j v y hv hy
    match j, hv, hy with
    | 0, hv, hy => simp at hv hy; subst hv hy; exact .of_whole h1 hl1
    | n + 1, hv, _ => simp at hv
  | n + 1, hu, _ => simp at hu

theorem get_set (o : PDeed) (j k : Nat) (v : Int) (hj : j = 1 ∨ j = 2 ∨ j = 3 ∨ j = 4) (hk : k = 1 ∨ k = 2 ∨ k = 3 ∨ k = 4) (h : j ≠ k) : (o.set j v).get k = o.get k := by
  rcases hj with rfl | rfl | rfl | rfl <;> rcases hk with rfl | rfl | rfl | rfl <;> first | rfl | exact absurd rfl h
theorem only_get (d : PDeed) (k : Nat) (hk : k = 1 ∨ k = 2 ∨ k = 3 ∨ k = 4) : ∀ (l : List PPart) (o : PDeed), (∀ p ∈ l, p.k = 1 ∨ p.k = 2 ∨ p.k = 3 ∨ p.k = 4) →
    (∃ p ∈ l, p.k = k) ∨ (l.foldl (fun o p => o.set p.k (d.get p.k)) o).get k = o.get k
  | [], o, _ => .inr rfl
  | p :: r, o, h => by
    by_cases hp : p.k = k
    · exact .inl ⟨p, List.mem_cons_self .., hp⟩
    · rcases only_get d k hk r (o.set p.k (d.get p.k)) (fun q hq => h q (List.mem_cons_of_mem _ hq)) with ⟨q, hq, he⟩ | he
      · exact .inl ⟨q, List.mem_cons_of_mem _ hq, he⟩
      · refine .inr ?_
        rw [List.foldl_cons, he, get_set o p.k k _ (h p (List.mem_cons_self ..)) hk hp]
/-- A right deed's parts are of six digits and a bit. -/
theorem right_small {d : PDeed} (hr : rightP d = true) (k : Nat) (hk : k = 1 ∨ k = 2 ∨ k = 3 ∨ k = 4) : d.get k ≤ 1000000 := by
  have ho := right_only hr
  rcases only_get d k hk (partsOf d.kind) ⟨d.kind, 0, 0, 0, 0⟩ (partsOf_k d.kind) with ⟨p, hp, he⟩ | he
  · have h1 := right_fits hr p hp
    have h2 := parts_bd d.kind p hp
    simp only [PPart.fits, he] at h1
    omega
  · have h1 : (onlyOf d (partsOf d.kind)).get k = (⟨d.kind, 0, 0, 0, 0⟩ : PDeed).get k := he
    rw [ho] at h1
    rw [h1]
    rcases hk with rfl | rfl | rfl | rfl <;> exact (by decide : (0 : Int) ≤ 1000000)
theorem wrong_set (x : PDeed) (j : Nat) (hj : j = 1 ∨ j = 2 ∨ j = 3 ∨ j = 4) (N : Int) (hN : 1000000 < N) : rightP (x.set j N) = false := by
  cases hr : rightP (x.set j N) with
  | false => rfl
  | true =>
    have h := right_small hr j hj
    have e : (x.set j N).get j = N := by rcases hj with rfl | rfl | rfl | rfl <;> rfl
    omega

theorem print_wrong {k a b i n : Int} (hr : rightP ⟨k, a, b, i, n⟩ = false) (w : World) (he : Env w) : Calls Tryd.prog 11 #[.agg #[.int .i64 k, .int .i64 a, .int .i64 b, .int .i64 i, .int .i64 n]] w
    fun e w' => e = .returned (.tuple #[.string ⟨#[]⟩, .int .i64 1]) ∧ Fr No w w' := by
  refine (print_calls ⟨k, a, b, i, n⟩ w he).mono ?_
  rintro e w' ⟨rfl, hf⟩
  have hp : printP ⟨k, a, b, i, n⟩ = [] := by unfold printP; rw [hr]; rfl
  rw [hp, hr]
  exact ⟨rfl, hf⟩
theorem check_wrong (y : PDeed) (hr : rightP y = false) (A : Option Addr) (c : Nat) (w : World) (h : ProgAt w (.slice A 1 c) [[[⟨14, 0, 0, 0, 0⟩, y]]]) : Calls Tryd.prog 13 #[.slice A 1 c] w
    fun e w' => e = .returned (.tuple #[.int .i64 150, .agg #[.int .i64 0, .int .i64 0, .int .i64 1]]) ∧ Fr No w w' := by
  refine (check_calls [[[⟨14, 0, 0, 0, 0⟩, y]]] A c w (by simp [Big]) h).mono ?_
  rintro e w' ⟨rfl, hf⟩
  have hz : wrongZ [⟨14, 0, 0, 0, 0⟩, y] = 1 := wrongZ_at (k := 1) rfl hr (fun j hj x hx => by
    have : j = 0 := by omega
    subst this
    simp at hx
    subst hx
    decide)
  have hb : blockZ [⟨14, 0, 0, 0, 0⟩, y] = 1 := by
    unfold blockZ
    rw [hz]
    simp
  have hc : checkP [[[⟨14, 0, 0, 0, 0⟩, y]]] = some [0, 0, 1] := by
    simp [checkP, wrongTs, wrongBs, hb]
  unfold checkE checkAt
  rw [hc]
  exact ⟨rfl, hf⟩
theorem check_lit {k a b i n : Int} (hr : rightP ⟨k, a, b, i, n⟩ = false) (w : World) : Calls Tryd.prog 13 #[.slice (some ⟨w.heap.size + 1 + 1, 0, none⟩) 1 1]
    (((w.alloc (.cells #[.int .i64 14, .int .i64 0, .int .i64 0, .int .i64 0, .int .i64 0, .int .i64 k, .int .i64 a, .int .i64 b, .int .i64 i, .int .i64 n] 23)).alloc (.cells #[.slice (some ⟨w.heap.size, 0, none⟩) 2 2] 41)).alloc (.cells #[.slice (some ⟨w.heap.size + 1, 0, none⟩) 1 1] 42))
    fun e w' => e = .returned (.tuple #[.int .i64 150, .agg #[.int .i64 0, .int .i64 0, .int .i64 1]]) ∧ Fr No (((w.alloc (.cells #[.int .i64 14, .int .i64 0, .int .i64 0, .int .i64 0, .int .i64 0, .int .i64 k, .int .i64 a, .int .i64 b, .int .i64 i, .int .i64 n] 23)).alloc (.cells #[.slice (some ⟨w.heap.size, 0, none⟩) 2 2] 41)).alloc (.cells #[.slice (some ⟨w.heap.size + 1, 0, none⟩) 1 1] 42)) w' := by
  refine check_wrong _ hr _ _ _ (prog_one (t1 := 23) (t3 := 41) (t4 := 42) (b1 := w.heap.size) (b3 := w.heap.size + 1) (l1 := [⟨14, 0, 0, 0, 0⟩, ⟨k, a, b, i, n⟩]) ?_ (by simp [Big]) ?_ ?_)
  · exact ((Whole.new w 23 [.int .i64 14, .int .i64 0, .int .i64 0, .int .i64 0, .int .i64 0, .int .i64 k, .int .i64 a, .int .i64 b, .int .i64 i, .int .i64 n]).alloc _).alloc _
  · exact (Whole.new1 w 41 [.slice (some ⟨w.heap.size, 0, none⟩) 2 2] _).alloc _
  · exact Whole.new2 w 42 [.slice (some ⟨w.heap.size + 1, 0, none⟩) 1 1] _ _
theorem right_wrong {k a b i n : Int} (hr : rightP ⟨k, a, b, i, n⟩ = false) (w : World) : Calls Tryd.prog 15 #[.agg #[.int .i64 k, .int .i64 a, .int .i64 b, .int .i64 i, .int .i64 n]] w
    fun e w' => e = .returned (.bool false) ∧ Fr No w w' := by
  refine (right_calls ⟨k, a, b, i, n⟩ w).mono ?_
  rintro e w' ⟨rfl, hf⟩
  rw [hr]
  exact ⟨rfl, hf⟩

set_option maxHeartbeats 4000000 in
theorem wrong_calls (d : PDeed) (part by' : Int) (h1 : d.i64) (hp : I64 part) (hb : I64 by') (w : World) (he : Env w) :
    Calls Tryd.prog 8 #[.agg #[.int .i64 d.kind, .int .i64 d.a, .int .i64 d.b, .int .i64 d.i, .int .i64 d.n], .int .i64 part, .int .i64 by'] w
      fun e w' => e = .returned (.bool true) ∧ Fr No w w' := by
  have fx := fun W => fit_15 d h1 W
  generalize fitP d = x at *
  have pb := fun W => pick_15 by' 1000000 hb (by decide) (by decide) W
  have pp := fun W => pick_15 part 4 hp (by decide) (by decide) W
  have b1 := pickZ_bd by' 1000000 (by decide)
  have b2 := pickZ_bd part 4 (by decide)
  generalize pickZ by' 1000000 = v at *
  generalize pickZ part 4 = z at *
  have hw := fun (j : Nat) (hj : j = 1 ∨ j = 2 ∨ j = 3 ∨ j = 4) => wrong_set x j hj (1000001 + v) (by omega)
  obtain ⟨N, hN⟩ : ∃ N, N = 1000001 + v := ⟨_, rfl⟩
  rw [← hN] at hw
  have hs : wrap64 (1000001 + v) = N := by unfold wrap64; omega
  have hz : z = 0 ∨ z = 1 ∨ z = 2 ∨ z = 3 := by omega
  have HE := Lib.hid he
  have FX := Lib.hid fx
  have PB := Lib.hid pb
  have PP := Lib.hid pp
  clear he fx pb pp h1 hp hb b2 b1 hN
  have hq3 := same_three 0 0 1
  obtain ⟨xk, xa, xb, xi, xn⟩ := x
  rcases hz with rfl | rfl | rfl | rfl
  · have hr : rightP ⟨xk, N, xb, xi, xn⟩ = false := hw 1 (by decide)
    have PY := Lib.hid (fun W (h : Env W) => print_wrong hr W h)
    have CY := Lib.hid (fun W => check_lit hr W)
    have RY := Lib.hid (fun W => right_wrong hr W)
    clear hw hr
    go_enter Tryd.func8, Tryd.ntmps8
    (go_wp2_with (first | (go_at_call 9; refine (awake_calls _ (HE.out.fr ((Fr.refl _ _).alloc _))).mono ?_; rintro e w1 ⟨rfl, hf1⟩; have hA1 := hf1.whole (Whole.new w 23 [.int .i64 d.kind, .int .i64 d.a, .int .i64 d.b, .int .i64 d.i, .int .i64 d.n]) (fun x => x); have hF1 := ((Fr.refl No w).alloc _).trans hf1; have eA1 := hA1.cell; have lA1 := hA1.lt) | (go_at_call 10; (with_reducible refine (FX.out _).mono ?_); rintro e w2 ⟨rfl, hf2⟩; have hF2 := hF1.trans hf2; have hZ2 := hF2.size) | (go_at_call 17; first | (with_reducible refine (PB.out _).mono ?_; rintro e w3 ⟨rfl, rfl⟩) | (with_reducible refine (PP.out _).mono ?_; rintro e w3 ⟨rfl, rfl⟩)) | (go_at_call 11; (with_reducible refine (PY.out _ (HE.out.fr (hF2.alloc _))).mono ?_); rintro e w4 ⟨rfl, hf4⟩; have hY4 := hf4.whole (Whole.new w2 23 [.int .i64 xk, .int .i64 N, .int .i64 xb, .int .i64 xi, .int .i64 xn]) (fun x => x); have hF4 := (hF2.alloc _).trans hf4; have eY4 := hY4.cell; have lY4 := hY4.lt) | (go_at_call 13; (with_reducible refine (CY.out _).mono ?_); rintro e w5 ⟨rfl, hf5⟩; have hY5 := hf5.whole (((hY4.alloc _).alloc _).alloc _) (fun x => x); have hF5 := (((hF4.alloc _).alloc _).alloc _).trans hf5; have eY5 := hY5.cell; have lY5 := hY5.lt) | (go_at_call 15; (with_reducible refine (RY.out _).mono ?_); rintro e w6 ⟨rfl, hf6⟩; have hT6 := hf6.whole (Whole.new w5 30 [.int .i64 0, .int .i64 0, .int .i64 1]) (fun x => x); have eT6 := hT6.cell; have lT6 := hT6.lt)))
    go_ret
    exact ⟨rfl, (hF5.alloc _).trans hf6⟩
  · have hr : rightP ⟨xk, xa, N, xi, xn⟩ = false := hw 2 (by decide)
    have PY := Lib.hid (fun W (h : Env W) => print_wrong hr W h)
    have CY := Lib.hid (fun W => check_lit hr W)
    have RY := Lib.hid (fun W => right_wrong hr W)
    clear hw hr
    go_enter Tryd.func8, Tryd.ntmps8
    (go_wp2_with (first | (go_at_call 9; refine (awake_calls _ (HE.out.fr ((Fr.refl _ _).alloc _))).mono ?_; rintro e w1 ⟨rfl, hf1⟩; have hA1 := hf1.whole (Whole.new w 23 [.int .i64 d.kind, .int .i64 d.a, .int .i64 d.b, .int .i64 d.i, .int .i64 d.n]) (fun x => x); have hF1 := ((Fr.refl No w).alloc _).trans hf1; have eA1 := hA1.cell; have lA1 := hA1.lt) | (go_at_call 10; (with_reducible refine (FX.out _).mono ?_); rintro e w2 ⟨rfl, hf2⟩; have hF2 := hF1.trans hf2; have hZ2 := hF2.size) | (go_at_call 17; first | (with_reducible refine (PB.out _).mono ?_; rintro e w3 ⟨rfl, rfl⟩) | (with_reducible refine (PP.out _).mono ?_; rintro e w3 ⟨rfl, rfl⟩)) | (go_at_call 11; (with_reducible refine (PY.out _ (HE.out.fr (hF2.alloc _))).mono ?_); rintro e w4 ⟨rfl, hf4⟩; have hY4 := hf4.whole (Whole.new w2 23 [.int .i64 xk, .int .i64 xa, .int .i64 N, .int .i64 xi, .int .i64 xn]) (fun x => x); have hF4 := (hF2.alloc _).trans hf4; have eY4 := hY4.cell; have lY4 := hY4.lt) | (go_at_call 13; (with_reducible refine (CY.out _).mono ?_); rintro e w5 ⟨rfl, hf5⟩; have hY5 := hf5.whole (((hY4.alloc _).alloc _).alloc _) (fun x => x); have hF5 := (((hF4.alloc _).alloc _).alloc _).trans hf5; have eY5 := hY5.cell; have lY5 := hY5.lt) | (go_at_call 15; (with_reducible refine (RY.out _).mono ?_); rintro e w6 ⟨rfl, hf6⟩; have hT6 := hf6.whole (Whole.new w5 30 [.int .i64 0, .int .i64 0, .int .i64 1]) (fun x => x); have eT6 := hT6.cell; have lT6 := hT6.lt)))
    go_ret
    exact ⟨rfl, (hF5.alloc _).trans hf6⟩
  · have hr : rightP ⟨xk, xa, xb, N, xn⟩ = false := hw 3 (by decide)
    have PY := Lib.hid (fun W (h : Env W) => print_wrong hr W h)
    have CY := Lib.hid (fun W => check_lit hr W)
    have RY := Lib.hid (fun W => right_wrong hr W)
    clear hw hr
    go_enter Tryd.func8, Tryd.ntmps8
    (go_wp2_with (first | (go_at_call 9; refine (awake_calls _ (HE.out.fr ((Fr.refl _ _).alloc _))).mono ?_; rintro e w1 ⟨rfl, hf1⟩; have hA1 := hf1.whole (Whole.new w 23 [.int .i64 d.kind, .int .i64 d.a, .int .i64 d.b, .int .i64 d.i, .int .i64 d.n]) (fun x => x); have hF1 := ((Fr.refl No w).alloc _).trans hf1; have eA1 := hA1.cell; have lA1 := hA1.lt) | (go_at_call 10; (with_reducible refine (FX.out _).mono ?_); rintro e w2 ⟨rfl, hf2⟩; have hF2 := hF1.trans hf2; have hZ2 := hF2.size) | (go_at_call 17; first | (with_reducible refine (PB.out _).mono ?_; rintro e w3 ⟨rfl, rfl⟩) | (with_reducible refine (PP.out _).mono ?_; rintro e w3 ⟨rfl, rfl⟩)) | (go_at_call 11; (with_reducible refine (PY.out _ (HE.out.fr (hF2.alloc _))).mono ?_); rintro e w4 ⟨rfl, hf4⟩; have hY4 := hf4.whole (Whole.new w2 23 [.int .i64 xk, .int .i64 xa, .int .i64 xb, .int .i64 N, .int .i64 xn]) (fun x => x); have hF4 := (hF2.alloc _).trans hf4; have eY4 := hY4.cell; have lY4 := hY4.lt) | (go_at_call 13; (with_reducible refine (CY.out _).mono ?_); rintro e w5 ⟨rfl, hf5⟩; have hY5 := hf5.whole (((hY4.alloc _).alloc _).alloc _) (fun x => x); have hF5 := (((hF4.alloc _).alloc _).alloc _).trans hf5; have eY5 := hY5.cell; have lY5 := hY5.lt) | (go_at_call 15; (with_reducible refine (RY.out _).mono ?_); rintro e w6 ⟨rfl, hf6⟩; have hT6 := hf6.whole (Whole.new w5 30 [.int .i64 0, .int .i64 0, .int .i64 1]) (fun x => x); have eT6 := hT6.cell; have lT6 := hT6.lt)))
    go_ret
    exact ⟨rfl, (hF5.alloc _).trans hf6⟩
  · have hr : rightP ⟨xk, xa, xb, xi, N⟩ = false := hw 4 (by decide)
    have PY := Lib.hid (fun W (h : Env W) => print_wrong hr W h)
    have CY := Lib.hid (fun W => check_lit hr W)
    have RY := Lib.hid (fun W => right_wrong hr W)
    clear hw hr
    go_enter Tryd.func8, Tryd.ntmps8
    (go_wp2_with (first | (go_at_call 9; refine (awake_calls _ (HE.out.fr ((Fr.refl _ _).alloc _))).mono ?_; rintro e w1 ⟨rfl, hf1⟩; have hA1 := hf1.whole (Whole.new w 23 [.int .i64 d.kind, .int .i64 d.a, .int .i64 d.b, .int .i64 d.i, .int .i64 d.n]) (fun x => x); have hF1 := ((Fr.refl No w).alloc _).trans hf1; have eA1 := hA1.cell; have lA1 := hA1.lt) | (go_at_call 10; (with_reducible refine (FX.out _).mono ?_); rintro e w2 ⟨rfl, hf2⟩; have hF2 := hF1.trans hf2; have hZ2 := hF2.size) | (go_at_call 17; first | (with_reducible refine (PB.out _).mono ?_; rintro e w3 ⟨rfl, rfl⟩) | (with_reducible refine (PP.out _).mono ?_; rintro e w3 ⟨rfl, rfl⟩)) | (go_at_call 11; (with_reducible refine (PY.out _ (HE.out.fr (hF2.alloc _))).mono ?_); rintro e w4 ⟨rfl, hf4⟩; have hY4 := hf4.whole (Whole.new w2 23 [.int .i64 xk, .int .i64 xa, .int .i64 xb, .int .i64 xi, .int .i64 N]) (fun x => x); have hF4 := (hF2.alloc _).trans hf4; have eY4 := hY4.cell; have lY4 := hY4.lt) | (go_at_call 13; (with_reducible refine (CY.out _).mono ?_); rintro e w5 ⟨rfl, hf5⟩; have hY5 := hf5.whole (((hY4.alloc _).alloc _).alloc _) (fun x => x); have hF5 := (((hF4.alloc _).alloc _).alloc _).trans hf5; have eY5 := hY5.cell; have lY5 := hY5.lt) | (go_at_call 15; (with_reducible refine (RY.out _).mono ?_); rintro e w6 ⟨rfl, hf6⟩; have hT6 := hf6.whole (Whole.new w5 30 [.int .i64 0, .int .i64 0, .int .i64 1]) (fun x => x); have eT6 := hT6.cell; have lT6 := hT6.lt)))
    go_ret
    exact ⟨rfl, (hF5.alloc _).trans hf6⟩
end Go.Proofs.YtbjknkgefpeohaaDoor
