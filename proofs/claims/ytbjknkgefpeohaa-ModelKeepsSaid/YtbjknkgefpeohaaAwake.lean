/- Contract of awake: chapter 18's example is true. Conditions: none. -/
import Derived.Test.YtbjknkgefpeohaaCanon1
import Derived.Test.YtbjknkgefpeohaaFindX
import Derived.Test.YtbjknkgefpeohaaSame2
namespace Go.Proofs.Ytbjknkgefpeohaa
open Go.RowKit
attribute [local go_sem ↓] Go.wp_at_zero Go.wp_at_succ

def emptyRM : RM := ⟨none, 0, none, 0, [], []⟩
theorem empty_ok (w : World) : emptyRM.ok w := ⟨Row.nil _ _ _ _, fun _ h => (by cases h), Row.nil _ _ _ _, Nat.zero_le _, Nat.zero_le _⟩
def awO : PObj := ⟨7, 0, 1, false, false, [], [0], false⟩
def awM : PModel := ⟨[awO], []⟩

theorem aw_do1 (w : World) : Calls Try.prog 12 #[.agg #[.slice none 0 0, .slice none 0 0], .agg #[.int .i64 0, .int .i64 0, .int .i64 0, .int .i64 0, .int .i64 0, .int .i64 0], .agg #[.int .i64 1, .int .i64 0, .int .i64 0, .int .i64 0, .int .i64 1], .int .i64 7, .int .i64 0] w
    fun e w' => ∃ A c Q qc, ∃ r : RO, e = .returned (.tuple #[.agg #[.slice A 1 c, .slice Q 0 qc], .agg #[.int .i64 7, .int .i64 0, .int .i64 0, .int .i64 0, .int .i64 0, .int .i64 0], .int .i64 7, .int .i64 0]) ∧ r.o = awO ∧ RM.ok w' ⟨A, c, Q, qc, [r], []⟩ ∧ Fr No w w' := by
  refine (Do_calls emptyRM ⟨1, 0, 0, 0, 1⟩ 0 0 0 0 0 0 7 0 w (empty_ok w) (by decide)).mono ?_
  rintro e w' ⟨m', r', v, c, rfl, hf, hok, -, hd⟩
  have hv : doF ⟨1, 0, 0, 0, 1⟩ emptyRM.pure [0, 0, 0, 0, 0, 0] 7 0 = (awM, [7, 0, 0, 0, 0, 0], 7, 0) := by decide
  rw [hv] at hd
  injection hd with h1 hd
  injection hd with h2 hd
  injection hd with h3 h4
  obtain ⟨A, c', Q, qc, ros, qs⟩ := m'
  simp only [RM.pure, awM] at h1
  injection h1 with h5 h6
  subst h6 h2 h3 h4
  obtain ⟨r, rfl, h7⟩ := List.map_eq_singleton_iff.1 h5.symm
  exact ⟨A, c', Q, qc, r, rfl, h7, hok, hf⟩

theorem aw_do2 (A : Option Addr) (c : Nat) (Q : Option Addr) (qc : Nat) (r : RO) (w : World) (hr : r.o = awO) (h : RM.ok w ⟨A, c, Q, qc, [r], []⟩) : Calls Try.prog 12 #[.agg #[.slice A 1 c, .slice Q 0 qc], .agg #[.int .i64 7, .int .i64 0, .int .i64 0, .int .i64 0, .int .i64 0, .int .i64 0], .agg #[.int .i64 6, .int .i64 1, .int .i64 0, .int .i64 0, .int .i64 0], .int .i64 0, .int .i64 0] w
    fun e w' => ∃ A1 n1 c1 A2 n2 c2, e = .returned (.tuple #[.agg #[.slice A1 n1 c1, .slice A2 n2 c2], .agg #[.int .i64 7, .int .i64 0, .int .i64 0, .int .i64 0, .int .i64 0, .int .i64 0], .int .i64 0, .int .i64 143]) ∧ Fr No w w' := by
  have hp : RM.pure ⟨A, c, Q, qc, [r], []⟩ = awM := by simp [RM.pure, awM, hr]
  refine (Do_calls ⟨A, c, Q, qc, [r], []⟩ ⟨6, 1, 0, 0, 0⟩ 7 0 0 0 0 0 0 0 w h (by simp [Cap])).mono ?_
  rintro e w' ⟨m', r', v, x, rfl, hf, hok, -, hd⟩
  have hv : doF ⟨6, 1, 0, 0, 0⟩ awM [7, 0, 0, 0, 0, 0] 0 0 = (awM, [7, 0, 0, 0, 0, 0], 0, 143) := by decide
  rw [hp, hv] at hd
  injection hd with h1 hd
  injection hd with h2 hd
  injection hd with h3 h4
  subst h2 h3 h4
  exact ⟨_, _, _, _, _, _, rfl, hf⟩

theorem aw_find (A : Option Addr) (c : Nat) (Q : Option Addr) (qc : Nat) (r : RO) (w : World) (hr : r.o = awO) (h : RM.ok w ⟨A, c, Q, qc, [r], []⟩) : Calls Try.prog 15 #[.agg #[.slice A 1 c, .slice Q 0 qc], .int .i64 7] w
    fun e w' => ∃ pA pc nA nc, e = .returned (.tuple #[.agg #[.int .i64 7, .int .i64 0, .int .i64 1, .bool false, .bool false, .slice pA 0 pc, .slice nA 1 nc, .bool false], .bool true]) ∧ Fr No w w' := by
  refine (find_calls ⟨A, c, Q, qc, [r], []⟩ 7 w h).mono ?_
  rintro e w' ⟨hf, ⟨hz, -⟩ | ⟨i, q, ⟨⟨o', P', N'⟩, hz, hi, hqo, hok, rfl⟩⟩⟩
  · simp [idxZ, hr, awO] at hz
  · simp [idxZ, hr, awO] at hz
    have hi0 : i = 0 := by omega
    subst hi0
    simp at hi
    subst hi
    dsimp only at hqo
    rw [hr] at hqo
    subst hqo
    obtain ⟨pA, pc, nA, nc, e1, e2, _⟩ := hok
    dsimp only at e1 e2
    subst e1 e2
    exact ⟨pA, pc, nA, nc, rfl, hf⟩

theorem aw_same (A : Option Addr) (c : Nat) (Q : Option Addr) (qc : Nat) (r : RO) (w : World) (h : RM.ok w ⟨A, c, Q, qc, [r], []⟩) : Calls Try.prog 13 #[.agg #[.slice A 1 c, .slice Q 0 qc], .agg #[.slice none 0 0, .slice none 0 0]] w
    fun e w' => e = .returned (.bool false) ∧ Fr No w w' := by
  refine (same_calls ⟨A, c, Q, qc, [r], []⟩ emptyRM w h (empty_ok w)).mono ?_
  rintro e w' ⟨rfl, hf⟩
  exact ⟨by simp [RM.pure, emptyRM], hf⟩

theorem aw_canon (A : Option Addr) (c : Nat) (Q : Option Addr) (qc : Nat) (r : RO) (w : World) (hr : r.o = awO) (h : RM.ok w ⟨A, c, Q, qc, [r], []⟩) (rb : Nat) (hb : Whole w rb 24 [.int .i64 7, .int .i64 0, .int .i64 0, .int .i64 0, .int .i64 0, .int .i64 0]) : Calls Try.prog 17 #[.agg #[.slice A 1 c, .slice Q 0 qc], .slice (some ⟨rb, 0, none⟩) 6 6] w
    fun e w' => ∃ a k, e = .returned (.slice a 1 k) ∧ Fr No w w' := by
  obtain ⟨b, o, hA, -, -⟩ := h.row.2.2 (by simp)
  dsimp only at hA
  refine (canon_one ⟨A, c, Q, qc, [r], []⟩ r rb b o w h hA rfl (by simp [idxZ, hr, awO]) (by rw [hr]; rfl) (by rw [hr]; rfl) hb).mono ?_
  rintro e w' ⟨⟨a, k, rfl⟩, hf⟩
  exact ⟨a, k, rfl, hf⟩

theorem gen_calls {P : Program} {f : FuncId} {args : Array Value} {R : Ending → World → Prop} (W : World) (S : World → Prop) (hS : S W) (h : ∀ W', S W' → Calls P f args W' R) : Calls P f args W R := h W hS

set_option maxHeartbeats 2000000 in
theorem awake_calls (w : World) : Calls Try.prog 8 #[] w fun e w' => e = .returned (.bool true) ∧ Fr No w w' := by
  go_enter Try.func8, Try.ntmps8
  go_wp2_with fail
  refine (aw_do1 w).mono ?_
  rintro e w1 ⟨A, c, Q, qc, r, rfl, hr, hok, hf1⟩
  go_wp2_with fail
  refine gen_calls _ (fun W => Whole W w1.heap.size 29 [.slice A 1 c, .slice Q 0 qc] ∧ Whole W (w1.heap.size + 1) 24 [.int .i64 7, .int .i64 0, .int .i64 0, .int .i64 0, .int .i64 0, .int .i64 0] ∧ Fr No w1 W) ⟨(Whole.new w1 29 [.slice A 1 c, .slice Q 0 qc]).alloc _, Whole.new1 w1 24 [.int .i64 7, .int .i64 0, .int .i64 0, .int .i64 0, .int .i64 0, .int .i64 0] _, ((Fr.refl _ _).alloc _).alloc _⟩ ?_
  rintro W2 ⟨hM, hR, hf2⟩
  have hok2 := hok.no hf2
  refine (aw_find A c Q qc r W2 hr hok2).mono ?_
  rintro e w3 ⟨pA, pc, nA, nc, rfl, hf3⟩
  have hM3 := hf3.whole hM (fun x => x)
  have hR3 := hf3.whole hR (fun x => x)
  have hok3 := hok2.no hf3
  have e0 := hM3.cell
  have e1 := hR3.cell
  have l3 := hR3.lt
  have l0 := hM3.lt
  generalize w1.heap.size = n0 at *
  generalize n0 + 1 = n1 at *
  go_wp2_with fail
  refine gen_calls _ (fun W => Whole W w3.heap.size 41 [.int .i64 7, .int .i64 0, .int .i64 1, .bool false, .bool false, .slice pA 0 pc, .slice nA 1 nc, .bool false] ∧ Fr No w3 W) ⟨Whole.new w3 41 [.int .i64 7, .int .i64 0, .int .i64 1, .bool false, .bool false, .slice pA 0 pc, .slice nA 1 nc, .bool false], (Fr.refl _ _).alloc _⟩ ?_
  rintro W4 ⟨hO, hf4⟩
  have hok4 := hok3.no hf4
  refine (aw_do2 A c Q qc r W4 hr hok4).mono ?_
  rintro e w5 ⟨A1, k1, c1, A2, k2, c2, rfl, hf5⟩
  have hM5 := hf5.whole (hf4.whole hM3 (fun x => x)) (fun x => x)
  have hR5 := hf5.whole (hf4.whole hR3 (fun x => x)) (fun x => x)
  have hO5 := hf5.whole hO (fun x => x)
  have hok5 := hok4.no hf5
  clear e0 e1 l0 l3
  generalize w3.heap.size = n2 at *
  have e0 := hM5.cell
  have e1 := hR5.cell
  have e2 := hO5.cell
  have l0 := hM5.lt
  have l1 := hR5.lt
  have l2 := hO5.lt
  go_wp2_with fail
  refine gen_world _ (fun W => (∀ i, W.cell? ⟨n0, i, none⟩ = ([.slice A 1 c, .slice Q 0 qc] : List Value)[i]?) ∧ (∀ i, W.cell? ⟨n1, i, none⟩ = ([.int .i64 7, .int .i64 0, .int .i64 0, .int .i64 0, .int .i64 0, .int .i64 0] : List Value)[i]?) ∧ (∀ i, W.cell? ⟨n2, i, none⟩ = ([.int .i64 7, .int .i64 0, .int .i64 1, .bool false, .bool false, .slice pA 0 pc, .slice nA 1 nc, .bool false] : List Value)[i]?) ∧ Fr No w5 W) ⟨((hM5.alloc _).alloc _).cell, ((hR5.alloc _).alloc _).cell, ((hO5.alloc _).alloc _).cell, ((Fr.refl _ _).alloc _).alloc _⟩ ?_
  rintro W6 ⟨f0, f1, f2, hf6⟩
  have hF5 : Fr No w w5 := (((hf1.trans hf2).trans hf3).trans hf4).trans hf5
  have HM := Lib.hid fun X (hX : Fr No w5 X) => (hX.whole hM5 (fun x => x)).cell
  have HR := Lib.hid fun X (hX : Fr No w5 X) => (hX.whole hR5 (fun x => x)).cell
  have HO := Lib.hid fun X (hX : Fr No w5 X) => (hX.whole hO5 (fun x => x)).cell
  have Hs := Lib.hid fun X (hX : Fr No w5 X) => aw_same A c Q qc r X (hok5.no hX)
  have Hc := Lib.hid fun X (hX : Fr No w5 X) => aw_canon A c Q qc r X hr (hok5.no hX) n1 (hX.whole hR5 (fun x => x))
  have l6 : n0 < W6.heap.size := Nat.lt_of_lt_of_le l0 hf6.size
  have l7 : n1 < W6.heap.size := Nat.lt_of_lt_of_le l1 hf6.size
  have l8 : n2 < W6.heap.size := Nat.lt_of_lt_of_le l2 hf6.size
  clear e0 e1 e2 l0 l1 l2 hM hR hO hM3 hR3 hM5 hR5 hO5 hok hok2 hok3 hok4 hok5 hf1 hf2 hf3 hf4 hf5 hr
  go_region_held3 (fun w' => (∀ i, w'.cell? ⟨n0, i, none⟩ = ([.slice A 1 c, .slice Q 0 qc] : List Value)[i]?) ∧ (∀ i, w'.cell? ⟨n1, i, none⟩ = ([.int .i64 7, .int .i64 0, .int .i64 0, .int .i64 0, .int .i64 0, .int .i64 0] : List Value)[i]?) ∧ (∀ i, w'.cell? ⟨n2, i, none⟩ = ([.int .i64 7, .int .i64 0, .int .i64 1, .bool false, .bool false, .slice pA 0 pc, .slice nA 1 nc, .bool false] : List Value)[i]?)) (first | go_keep | exact ⟨g3, g4, g5⟩ | exact ⟨g0, g1, g2⟩) ((first | (go_at_call 13; with_reducible refine (Hs.out _ (by exact hf6.drew)).mono ?_; rintro e w7 ⟨rfl, hf7⟩; have hf57 := hf6.drew.trans hf7; have g0 := HM.out w7 hf57; have g1 := HR.out w7 hf57; have g2 := HO.out w7 hf57) | (go_at_call 17; with_reducible refine (Hc.out _ (by exact hf57)).mono ?_; rintro e w8 ⟨a, k, rfl, hf8⟩; have hf58 := hf57.trans hf8; have g3 := HM.out w8 hf58; have g4 := HR.out w8 hf58; have g5 := HO.out w8 hf58)))
  all_goals
    go_wp2
    go_ret
    exact ⟨rfl, hF5.trans hf58⟩
end Go.Proofs.Ytbjknkgefpeohaa
