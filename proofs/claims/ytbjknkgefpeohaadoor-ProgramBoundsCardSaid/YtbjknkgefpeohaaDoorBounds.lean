/- ProgramBounds: its walk. Conditions: numbers of 64 bits; the tables and errors of strconv. -/
import Derived.Test.YtbjknkgefpeohaaDoorBack
namespace Go.Proofs.YtbjknkgefpeohaaDoor
open Go.RowKit
set_option maxRecDepth 100000
attribute [local go_sem ↓] Go.wp_at_zero Go.wp_at_succ

theorem sl_deed : SlTy Tryd.prog 41 23 5 40 := slTy_mk Tryd.underlying41 (z := .agg #[.int .i64 0, .int .i64 0, .int .i64 0, .int .i64 0, .int .i64 0]) (by kernel_rfl) rfl (by decide) (by decide)
theorem sl_block : SlTy Tryd.prog 42 41 1 24 := slTy_mk Tryd.underlying42 (z := .slice none 0 0) (by kernel_rfl) rfl (by decide) (by decide)
theorem sl_thread : SlTy Tryd.prog 24 42 1 24 := slTy_mk Tryd.underlying24 (z := .slice none 0 0) (by kernel_rfl) rfl (by decide) (by decide)

/-! ## The plain law -/
def abD : PDeed := ⟨14, 0, 0, 0, 0⟩
theorem blockZ_abs (d : Nat) : blockZ (List.replicate d abD) = if d = 0 ∨ 12 < d then 0 else -1 := by
  unfold blockZ
  rw [List.length_replicate]
  by_cases h : d = 0 ∨ 12 < d
  · rw [if_pos h, if_pos h]
  · rw [if_neg h, if_neg h]
    refine wrongZ_none (fun j _ x hx => ?_)
    have := List.mem_of_getElem? hx
    rw [(List.mem_replicate.1 this).2]
    decide
theorem wrongBs_good (t : Int) {l : List PDeed} (hz : ¬ 0 ≤ blockZ l) : ∀ (n b : Nat), wrongBs t b (List.replicate n l) = none
  | 0, _ => rfl
  | n + 1, b => by
    rw [List.replicate_succ, wrongBs, if_neg hz]
    exact wrongBs_good t hz n (b + 1)
theorem wrongTs_good {bs : List (List PDeed)} (h6 : ¬ 6 < bs.length) (hb : ∀ t : Int, wrongBs t 0 bs = none) : ∀ (n t : Nat), wrongTs t (List.replicate n bs) = none
  | 0, _ => rfl
  | n + 1, t => by
    rw [List.replicate_succ, wrongTs, if_neg h6, hb]
    exact wrongTs_good h6 hb n (t + 1)
def allP (t b d : Nat) : List (List (List PDeed)) := List.replicate t (List.replicate b (List.replicate d abD))
theorem all_good {t b d : Nat} (h1 : 1 ≤ t) (h2 : t ≤ 8) (h3 : b ≤ 6) (h4 : b = 0 ∨ 1 ≤ d ∧ d ≤ 12) : checkP (allP t b d) = none := by
  unfold checkP allP
  rw [List.length_replicate, if_neg (by omega)]
  refine wrongTs_good (by rw [List.length_replicate]; omega) (fun t => ?_) _ _
  rcases Nat.eq_zero_or_pos b with hb | hb
  · subst hb; rfl
  · refine wrongBs_good t ?_ _ _
    rw [blockZ_abs, if_neg (by omega)]
    decide
theorem all_bad {t b d : Nat} (h : ¬ (1 ≤ t ∧ t ≤ 8 ∧ b ≤ 6 ∧ (b = 0 ∨ 1 ≤ d ∧ d ≤ 12))) : checkP (allP t b d) = some [0, 0, 0] := by
  unfold checkP allP
  rw [List.length_replicate]
  by_cases ht : t = 0 ∨ 8 < t
  · rw [if_pos ht]
  · rw [if_neg ht]
    obtain ⟨n, rfl⟩ : ∃ n, t = n + 1 := ⟨t - 1, by omega⟩
    rw [List.replicate_succ, wrongTs, List.length_replicate]
    by_cases hb : 6 < b
    · rw [if_pos hb]; rfl
    · rw [if_neg hb]
      obtain ⟨m, rfl⟩ : ∃ m, b = m + 1 := ⟨b - 1, by omega⟩
      have hz : blockZ (List.replicate d abD) = 0 := by rw [blockZ_abs, if_pos (by omega)]
      have hw : wrongBs ((0 : Nat) : Int) 0 (List.replicate (m + 1) (List.replicate d abD)) = some [((0 : Nat) : Int), ((0 : Nat) : Int), 0] := by
        rw [List.replicate_succ, wrongBs, hz]
        rfl
      rw [hw]
      rfl
theorem check_all (t b d : Nat) (ht : t ≤ 10) : ∃ E : Int, ((1 ≤ t ∧ t ≤ 8 ∧ b ≤ 6 ∧ (b = 0 ∨ 1 ≤ d ∧ d ≤ 12)) ∧ E = 0 ∨ ¬ (1 ≤ t ∧ t ≤ 8 ∧ b ≤ 6 ∧ (b = 0 ∨ 1 ≤ d ∧ d ≤ 12)) ∧ E = 150) ∧
    ∀ (A : Option Addr) (c : Nat) (w : World), ProgAt w (.slice A t c) (allP t b d) → Calls Tryd.prog 13 #[.slice A t c] w
      fun e w' => e = .returned (.tuple #[.int .i64 E, .agg #[.int .i64 0, .int .i64 0, .int .i64 0]]) ∧ Fr No w w' := by
  have hl : (allP t b d).length = t := List.length_replicate
  refine ⟨checkE (allP t b d), ?_, fun A c w h => ?_⟩
  · by_cases hm : 1 ≤ t ∧ t ≤ 8 ∧ b ≤ 6 ∧ (b = 0 ∨ 1 ≤ d ∧ d ≤ 12)
    · exact .inl ⟨hm, by unfold checkE; rw [all_good hm.1 hm.2.1 hm.2.2.1 hm.2.2.2]; rfl⟩
    · exact .inr ⟨hm, by unfold checkE; rw [all_bad hm]; rfl⟩
  · have hc := check_calls (allP t b d) A c w (by rw [hl]; unfold Big; omega) (by rw [hl]; exact h)
    rw [hl] at hc
    refine hc.mono ?_
    rintro e w' ⟨rfl, hf⟩
    refine ⟨?_, hf⟩
    have ha : checkAt (allP t b d) = [0, 0, 0] := by
      unfold checkAt
      by_cases hm : 1 ≤ t ∧ t ≤ 8 ∧ b ≤ 6 ∧ (b = 0 ∨ 1 ≤ d ∧ d ≤ 12)
      · rw [all_good hm.1 hm.2.1 hm.2.2.1 hm.2.2.2]; rfl
      · rw [all_bad hm]; rfl
    rw [ha]
    rfl

theorem reads_rep {α : Type} {R : World → Value → α → Prop} {w : World} {A : Option Addr} {n c : Nat} {v : Value} {x : α} (hr : Row w 1 A n c (List.replicate n v)) (hn : n ≤ Big) (hR : R w v x) : Reads R w (.slice A n c) (List.replicate n x) := by
  refine ⟨A, c, List.replicate n v, by rw [List.length_replicate], by rw [List.length_replicate]; exact hn, by rw [List.length_replicate]; exact hr, fun i u y hu hy => ?_⟩
  rw [(List.mem_replicate.1 (List.mem_of_getElem? hu)).2, (List.mem_replicate.1 (List.mem_of_getElem? hy)).2]
  exact hR
theorem block_rep {w : World} {A : Option Addr} {n c : Nat} (hr : Row w 5 A n c (deedRow (List.replicate n abD))) (hn : n ≤ Big) : BlockAt w (.slice A n c) (List.replicate n abD) :=
  ⟨A, c, by rw [List.length_replicate], by rw [List.length_replicate]; exact hn, by rw [List.length_replicate]; exact hr⟩
theorem deedRow_snoc (n : Nat) : deedRow (List.replicate n abD) ++ [.int .i64 14, .int .i64 0, .int .i64 0, .int .i64 0, .int .i64 0] = deedRow (List.replicate (n + 1) abD) := by
  rw [List.replicate_succ']
  simp [deedRow]
  rfl
theorem rep_snoc (n : Nat) (v : Value) : List.replicate n v ++ [v] = List.replicate (n + 1) v := by rw [List.replicate_succ']

set_option maxHeartbeats 4000000 in
theorem bounds_calls (p1 p2 p3 : Int) (h1 : I64 p1) (h2 : I64 p2) (h3 : I64 p3) (w : World) (he : Env w) :
    Calls Tryd.prog 6 #[.int .i64 p1, .int .i64 p2, .int .i64 p3] w fun e w' => e = .returned (.bool true) ∧ Fr No w w' := by
  have q1 := fun W => pick_15 p1 11 h1 (by decide) (by decide) W
  have q2 := fun W => pick_15 p2 9 h2 (by decide) (by decide) W
  have q3 := fun W => pick_15 p3 15 h3 (by decide) (by decide) W
  have b1 := pickZ_bd p1 11 (by decide)
  have b2 := pickZ_bd p2 9 (by decide)
  have b3 := pickZ_bd p3 15 (by decide)
  obtain ⟨t, ht⟩ : ∃ t : Nat, pickZ p1 11 = t := ⟨(pickZ p1 11).toNat, by omega⟩
  obtain ⟨b, hb⟩ : ∃ t : Nat, pickZ p2 9 = t := ⟨(pickZ p2 9).toNat, by omega⟩
  obtain ⟨d, hd⟩ : ∃ t : Nat, pickZ p3 15 = t := ⟨(pickZ p3 15).toNat, by omega⟩
  rw [ht] at q1 b1
  rw [hb] at q2 b2
  rw [hd] at q3 b3
  have Q1 := Lib.hid q1
  have Q2 := Lib.hid q2
  have Q3 := Lib.hid q3
  have HE := Lib.hid he
  have t1 : t ≤ 10 := by omega
  have t2 : b ≤ 8 := by omega
  have t3 : d ≤ 14 := by omega
  clear q1 q2 q3 b1 b2 b3 ht hb hd h1 h2 h3 he
  obtain ⟨E, hE, hC⟩ := check_all t b d t1
  have HEE := Lib.hid hE
  have HC := Lib.hid hC
  clear hE hC
  go_enter Tryd.func6, Tryd.ntmps6
  go_wp2_with (first
    | (go_at_call 9; refine (awake_calls _ HE.out).mono ?_; rintro e w1 ⟨rfl, hf1⟩)
    | (go_at_call 17; first | (with_reducible refine (Q1.out _).mono ?_; rintro e w3 ⟨rfl, rfl⟩) | (with_reducible refine (Q2.out _).mono ?_; rintro e w3 ⟨rfl, rfl⟩) | (with_reducible refine (Q3.out _).mono ?_; rintro e w3 ⟨rfl, rfl⟩)))
  refine gen_world _ (fun W => Fr No w W) hf1 ?_
  intro W hFW
  clear hf1
  go_loopw [11, 12] (fun v i wr => ∃ k : Nat, k ≤ d ∧ i = .int .i64 k ∧ wr.ownsRow W.heap.size 23 5 v k (deedRow (List.replicate k abD)) ∧ Fr No W wr) (fun _ i _ => d - (intOf i).toNat)
  case atStart => exact ⟨0, Nat.zero_le _, rfl, World.ownsRow_nil _ _ _ _, Fr.refl _ _⟩
  case round =>
    obtain ⟨wq, hwq⟩ : ∃ x, x = wr := ⟨_, rfl⟩
    subst hwq
    obtain ⟨k, hk, rfl, hV, hF⟩ := hrel
    have hsz := hF.size
    obtain ⟨A1, c1, rfl, hc1, -⟩ := own_form hV
    by_cases hlt : k < d
    · have i2 : (k : Int) < (d : Int) := by omega
      go_wp2_with (at_builtin; refine wpList_apps sl_deed _ rfl _ _ rfl W.heap.size (.slice A1 k c1) k _ rfl (own_fr hV ((Fr.refl No wq).alloc _) (fun _ _ x => x)) (some ⟨wq.heap.size, 0, none⟩) 1 1 [.int .i64 14, .int .i64 0, .int .i64 0, .int .i64 0, .int .i64 0] rfl (Row.of_whole (Whole.new wq _ _) 5 1 rfl) (by intro u hu; simp at hu; rcases hu with rfl | rfl | rfl | rfl | rfl <;> rfl) (by unfold Cap; omega) (by simp; omega) ?_; intro A6 c6 w6 hown6 hg6 hb6; refine Hid.out ?_)
      refine Lib.hid ?_
      go_wp2_with fail
      refine ⟨⟨k + 1, by omega, by go_num, ?_, (hF.alloc _).grown hg6 (fun g hg => Or.inr (hV.lt g hg).1)⟩, by simp [intOf]; omega⟩
      rw [← deedRow_snoc]
      exact hown6
    · have hkd : k = d := by omega
      subst hkd
      have hB := block_rep (Row.of_own hV) (by unfold Big; omega)
      have hF1 := hFW.trans hF
      go_wp2_with fail
      clear hV hF hFW hsz hc1 hlt
      go_loopw [13, 14] (fun v i wr => ∃ j : Nat, j ≤ b ∧ i = .int .i64 j ∧ wr.ownsRow wq.heap.size 41 1 v j (List.replicate j (.slice A1 k c1)) ∧ Fr No wq wr) (fun _ i _ => b - (intOf i).toNat)
      case atStart => exact ⟨0, Nat.zero_le _, rfl, World.ownsRow_nil _ _ _ _, Fr.refl _ _⟩
      case round =>
        obtain ⟨wp, hwp⟩ : ∃ x, x = wr := ⟨_, rfl⟩
        subst hwp
        obtain ⟨j, hj, rfl, hV, hF⟩ := hrel
        have hsz := hF.size
        obtain ⟨A2, c2, rfl, hc2, -⟩ := own_form hV
        have H1c := Lib.hid (show ∀ u ∈ [Value.slice A1 k c1], u.oneCell' = true from by intro u hu; rw [List.mem_singleton] at hu; rw [hu]; rfl)
        by_cases hlb : j < b
        · have i2 : (j : Int) < (b : Int) := by omega
          go_wp2_with (at_builtin; refine wpList_apps sl_block _ rfl _ _ rfl wq.heap.size (.slice A2 j c2) j _ rfl (own_fr hV ((Fr.refl No wp).alloc _) (fun _ _ x => x)) (some ⟨wp.heap.size, 0, none⟩) 1 1 [.slice A1 k c1] rfl (Row.of_whole (Whole.new wp _ _) 1 1 rfl) H1c.out (by unfold Cap; omega) (by simp; omega) ?_; intro A6 c6 w6 hown6 hg6 hb6; refine Hid.out ?_)
          refine Lib.hid ?_
          go_wp2_with fail
          refine ⟨⟨j + 1, by omega, by go_num, ?_, (hF.alloc _).grown hg6 (fun g hg => Or.inr (hV.lt g hg).1)⟩, by simp [intOf]; omega⟩
          rw [← rep_snoc]
          exact hown6
        · have hjb : j = b := by omega
          subst hjb
          have hT : ThreadAt wp (.slice A2 j c2) (List.replicate j (List.replicate k abD)) := reads_rep (Row.of_own hV) (by unfold Big; omega) (hB.no hF)
          have hF2 := hF1.trans hF
          go_wp2_with fail
          clear hV hF hF1 hB H1c hsz hc2 hlb
          go_loopw [15, 16] (fun v i wr => ∃ q : Nat, q ≤ t ∧ i = .int .i64 q ∧ wr.ownsRow wp.heap.size 42 1 v q (List.replicate q (.slice A2 j c2)) ∧ Fr No wp wr) (fun _ i _ => t - (intOf i).toNat)
          case atStart => exact ⟨0, Nat.zero_le _, rfl, World.ownsRow_nil _ _ _ _, Fr.refl _ _⟩
          case round =>
            obtain ⟨wo, hwo⟩ : ∃ x, x = wr := ⟨_, rfl⟩
            subst hwo
            obtain ⟨q, hq, rfl, hV, hF⟩ := hrel
            have hsz := hF.size
            obtain ⟨A3, c3, rfl, hc3, -⟩ := own_form hV
            have H1c := Lib.hid (show ∀ u ∈ [Value.slice A2 j c2], u.oneCell' = true from by intro u hu; rw [List.mem_singleton] at hu; rw [hu]; rfl)
            by_cases hlq : q < t
            · have i2 : (q : Int) < (t : Int) := by omega
              go_wp2_with (at_builtin; refine wpList_apps sl_thread _ rfl _ _ rfl wp.heap.size (.slice A3 q c3) q _ rfl (own_fr hV ((Fr.refl No wo).alloc _) (fun _ _ x => x)) (some ⟨wo.heap.size, 0, none⟩) 1 1 [.slice A2 j c2] rfl (Row.of_whole (Whole.new wo _ _) 1 1 rfl) H1c.out (by unfold Cap; omega) (by simp; omega) ?_; intro A6 c6 w6 hown6 hg6 hb6; refine Hid.out ?_)
              refine Lib.hid ?_
              go_wp2_with fail
              refine ⟨⟨q + 1, by omega, by go_num, ?_, (hF.alloc _).grown hg6 (fun g hg => Or.inr (hV.lt g hg).1)⟩, by simp [intOf]; omega⟩
              rw [← rep_snoc]
              exact hown6
            · have hqt : q = t := by omega
              subst hqt
              have hP : ProgAt wo (.slice A3 q c3) (allP q j k) := reads_rep (Row.of_own hV) (by unfold Big; omega) (ThreadAt.no hT hF)
              have hF3 := hF2.trans hF
              have HP := Lib.hid hP
              clear hV hF hF2 hT hP H1c hsz hc3
              have hM := HEE.out
              clear hk hj hq HEE
              have hq3 := same_three 0 0 0
              rcases (show q = 0 ∨ (1 ≤ q ∧ 8 < q) ∨ (1 ≤ q ∧ q ≤ 8 ∧ 6 < j) ∨ (1 ≤ q ∧ q ≤ 8 ∧ j = 0) ∨ (1 ≤ q ∧ q ≤ 8 ∧ 1 ≤ j ∧ j ≤ 6 ∧ k = 0) ∨ (1 ≤ q ∧ q ≤ 8 ∧ 1 ≤ j ∧ j ≤ 6 ∧ 1 ≤ k ∧ 12 < k) ∨ (1 ≤ q ∧ q ≤ 8 ∧ 1 ≤ j ∧ j ≤ 6 ∧ 1 ≤ k ∧ k ≤ 12) from by omega) with hc | hc | hc | hc | hc | hc | hc
              · obtain rfl : E = 150 := by omega
                have a1 : decide ((1 : Int) ≤ (q : Int)) = false := by rw [decide_eq_false_iff_not]; omega
                clear hM hc
                go_wp2_with (go_at_call 13; (with_reducible refine (HC.out _ _ _ HP.out).mono ?_); rintro e w5 ⟨rfl, hf5⟩)
                go_ret
                exact ⟨rfl, (hF3.trans hf5).alloc _⟩
              · obtain rfl : E = 150 := by omega
                have a1 : (1 : Int) ≤ (q : Int) := by omega
                have a2 : decide ((q : Int) ≤ 8) = false := by rw [decide_eq_false_iff_not]; omega
                clear hM hc
                go_wp2_with (go_at_call 13; (with_reducible refine (HC.out _ _ _ HP.out).mono ?_); rintro e w5 ⟨rfl, hf5⟩)
                go_ret
                exact ⟨rfl, (hF3.trans hf5).alloc _⟩
              · obtain rfl : E = 150 := by omega
                have a1 : (1 : Int) ≤ (q : Int) := by omega
                have a2 : (q : Int) ≤ 8 := by omega
                have a3 : decide ((j : Int) ≤ 6) = false := by rw [decide_eq_false_iff_not]; omega
                clear hM hc
                go_wp2_with (go_at_call 13; (with_reducible refine (HC.out _ _ _ HP.out).mono ?_); rintro e w5 ⟨rfl, hf5⟩)
                go_ret
                exact ⟨rfl, (hF3.trans hf5).alloc _⟩
              · obtain rfl : E = 0 := by omega
                have a1 : (1 : Int) ≤ (q : Int) := by omega
                have a2 : (q : Int) ≤ 8 := by omega
                have a3 : (j : Int) ≤ 6 := by omega
                have a4 : ((j : Int) == 0) = true := by rw [beq_iff_eq]; omega
                clear hM hc
                go_wp2_with (go_at_call 13; (with_reducible refine (HC.out _ _ _ HP.out).mono ?_); rintro e w5 ⟨rfl, hf5⟩)
                go_ret
                exact ⟨rfl, (hF3.trans hf5).alloc _⟩
              · obtain rfl : E = 150 := by omega
                have a1 : (1 : Int) ≤ (q : Int) := by omega
                have a2 : (q : Int) ≤ 8 := by omega
                have a3 : (j : Int) ≤ 6 := by omega
                have a4 : ((j : Int) == 0) = false := by rw [beq_eq_false_iff_ne]; omega
                have a5 : decide ((1 : Int) ≤ (k : Int)) = false := by rw [decide_eq_false_iff_not]; omega
                clear hM hc
                go_wp2_with (go_at_call 13; (with_reducible refine (HC.out _ _ _ HP.out).mono ?_); rintro e w5 ⟨rfl, hf5⟩)
                go_ret
                exact ⟨rfl, (hF3.trans hf5).alloc _⟩
              · obtain rfl : E = 150 := by omega
                have a1 : (1 : Int) ≤ (q : Int) := by omega
                have a2 : (q : Int) ≤ 8 := by omega
                have a3 : (j : Int) ≤ 6 := by omega
                have a4 : ((j : Int) == 0) = false := by rw [beq_eq_false_iff_ne]; omega
                have a5 : (1 : Int) ≤ (k : Int) := by omega
                have a6 : decide ((k : Int) ≤ 12) = false := by rw [decide_eq_false_iff_not]; omega
                clear hM hc
                go_wp2_with (go_at_call 13; (with_reducible refine (HC.out _ _ _ HP.out).mono ?_); rintro e w5 ⟨rfl, hf5⟩)
                go_ret
                exact ⟨rfl, (hF3.trans hf5).alloc _⟩
              · obtain rfl : E = 0 := by omega
                have a1 : (1 : Int) ≤ (q : Int) := by omega
                have a2 : (q : Int) ≤ 8 := by omega
                have a3 : (j : Int) ≤ 6 := by omega
                have a4 : ((j : Int) == 0) = false := by rw [beq_eq_false_iff_ne]; omega
                have a5 : (1 : Int) ≤ (k : Int) := by omega
                have a6 : (k : Int) ≤ 12 := by omega
                clear hM hc
                go_wp2_with (go_at_call 13; (with_reducible refine (HC.out _ _ _ HP.out).mono ?_); rintro e w5 ⟨rfl, hf5⟩)
                go_ret
                exact ⟨rfl, (hF3.trans hf5).alloc _⟩
end Go.Proofs.YtbjknkgefpeohaaDoor
