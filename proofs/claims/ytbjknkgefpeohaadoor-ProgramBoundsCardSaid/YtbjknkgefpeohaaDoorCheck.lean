/- Contract of Check: the first deed of a program that may not be. Conditions: lists of at most 2^48. -/
import Derived.Test.YtbjknkgefpeohaaDoorBlock
namespace Go.Proofs.YtbjknkgefpeohaaDoor
open Go.RowKit
set_option maxRecDepth 100000
attribute [local go_sem ↓] Go.wp_at_zero Go.wp_at_succ

section
variable {P : Program} {fn : Func} {p u : Tmp} {ty : TypeId} {tmps : Array Value} {w : World} {g : Nat} {t : TypeId} {cs : List Value} {d : TypeDesc}
theorem results_tmp_whole (h : fn.results = #[.tmp u, .cell p ty])
    (hp : tmps.getD p undef = .pointer (some ⟨g, 0, none⟩)) (hg : Whole w g t cs) (hu : P.underlying ty = some d) (hd : (match d with | .struct _ | .array _ _ => true | _ => false) = true)
    (hi : (P.info? ty).map (·.size) = some cs.length) : (results fn tmps).run P w = .ok (.tuple #[tmps.getD u undef, .agg cs.toArray]) w := by
  have hp' : tmps[p]?.getD undef = .pointer (some ⟨g, 0, none⟩) := by simpa using hp
  have hg' : w.heap[g]? = some (.cells cs.toArray t (0, 0)) := hg
  simp [results, h, hp', asAddr, Result.andThen, run_loadVar_row w g t ty cs.toArray (0, 0) d hg' hu hd (by simpa using hi)]
theorem results_whole_tmp (h : fn.results = #[.cell p ty, .tmp u])
    (hp : tmps.getD p undef = .pointer (some ⟨g, 0, none⟩)) (hg : Whole w g t cs) (hu : P.underlying ty = some d) (hd : (match d with | .struct _ | .array _ _ => true | _ => false) = true)
    (hi : (P.info? ty).map (·.size) = some cs.length) : (results fn tmps).run P w = .ok (.tuple #[.agg cs.toArray, tmps.getD u undef]) w := by
  have hp' : tmps[p]?.getD undef = .pointer (some ⟨g, 0, none⟩) := by simpa using hp
  have hg' : w.heap[g]? = some (.cells cs.toArray t (0, 0)) := hg
  simp [results, h, hp', asAddr, Result.andThen, run_loadVar_row w g t ty cs.toArray (0, 0) d hg' hu hd (by simpa using hi)]
end

/-- A value that reads as a list, each element as R says. -/
def Reads {α : Type} (R : World → Value → α → Prop) (w : World) (v : Value) (l : List α) : Prop :=
  ∃ A c vs, v = .slice A l.length c ∧ l.length ≤ Big ∧ Row w 1 A l.length c vs ∧ ∀ (i : Nat) u x, vs[i]? = some u → l[i]? = some x → R w u x
def BlockAt (w : World) (v : Value) (l : List PDeed) : Prop := ∃ A c, v = .slice A l.length c ∧ l.length ≤ Big ∧ Row w 5 A l.length c (deedRow l)
def ThreadAt : World → Value → List (List PDeed) → Prop := Reads BlockAt
def ProgAt : World → Value → List (List (List PDeed)) → Prop := Reads ThreadAt
theorem BlockAt.no {w w' : World} {v : Value} {l : List PDeed} (h : BlockAt w v l) (hf : Fr No w w') : BlockAt w' v l := by
  obtain ⟨A, c, h1, h2, h3⟩ := h
  exact ⟨A, c, h1, h2, h3.no hf⟩
theorem Reads.no {α : Type} {R : World → Value → α → Prop} {w w' : World} {v : Value} {l : List α} (h : Reads R w v l) (hf : Fr No w w') (hR : ∀ u x, R w u x → R w' u x) : Reads R w' v l := by
  obtain ⟨A, c, vs, h1, h2, h3, h4⟩ := h
  exact ⟨A, c, vs, h1, h2, h3.no hf, fun i u x hu hx => hR _ _ (h4 i u x hu hx)⟩
theorem ThreadAt.no {w w' : World} {v : Value} {l : List (List PDeed)} (h : ThreadAt w v l) (hf : Fr No w w') : ThreadAt w' v l := Reads.no h hf (fun _ _ h => h.no hf)
theorem ProgAt.no {w w' : World} {v : Value} {l : List (List (List PDeed))} (h : ProgAt w v l) (hf : Fr No w w') : ProgAt w' v l := Reads.no h hf (fun _ _ h => ThreadAt.no h hf)
/-- The k-th element: its cell, and what it reads as. -/
theorem Reads.get {α : Type} {R : World → Value → α → Prop} {w : World} {A : Option Addr} {c n : Nat} {l : List α} (h : Reads R w (.slice A n c) l) {k : Nat} {x : α} (hk : l[k]? = some x) :
    ∃ b o u, A = some ⟨b, o, none⟩ ∧ b < w.heap.size ∧ w.cell? ⟨b, o + k, none⟩ = some u ∧ R w u x := by
  obtain ⟨A', c', vs, h1, h2, h3, h4⟩ := h
  injection h1 with hA hn hc
  subst hA
  have hkl : k < l.length := (List.getElem?_eq_some_iff.1 hk).1
  have hvl : vs.length = l.length := by have := h3.1; omega
  obtain ⟨b, o, hA, hb, hcs⟩ := h3.2.2 (by omega)
  have hu : vs[k]? = some (vs[k]'(by omega)) := List.getElem?_eq_getElem _
  exact ⟨b, o, _, hA, hb, hcs k _ hu, h4 k _ _ hu hk⟩

/-- Of a thread's blocks, the first wrong deed. -/
def wrongBs (t : Int) : Nat → List (List PDeed) → Option (List Int)
  | _, [] => none
  | b, l :: r => if 0 ≤ blockZ l then some [t, b, blockZ l] else wrongBs t (b + 1) r
def wrongTs : Nat → List (List (List PDeed)) → Option (List Int)
  | _, [] => none
  | t, bs :: r => if 6 < bs.length then some [t, 0, 0] else match wrongBs t 0 bs with | some q => some q | none => wrongTs (t + 1) r
/-- Of a program, the first wrong deed; none: it may be. -/
def checkP (ts : List (List (List PDeed))) : Option (List Int) := if ts.length = 0 ∨ 8 < ts.length then some [0, 0, 0] else wrongTs 0 ts
def checkE (ts : List (List (List PDeed))) : Int := if (checkP ts).isSome then 150 else 0
def checkAt (ts : List (List (List PDeed))) : List Int := (checkP ts).getD [0, 0, 0]

set_option maxHeartbeats 4000000 in
theorem check_calls (ts : List (List (List PDeed))) (A : Option Addr) (c : Nat) (w : World) (hl : ts.length ≤ Big) (h : ProgAt w (.slice A ts.length c) ts) :
    Calls Tryd.prog 13 #[.slice A ts.length c] w fun e w' => e = .returned (.tuple #[.int .i64 (checkE ts), .agg ((checkAt ts).map (Value.int .i64)).toArray]) ∧ Fr No w w' := by
  unfold Big at hl
  by_cases h0 : ts.length = 0 ∨ 8 < ts.length
  · have hz : checkP ts = some [0, 0, 0] := by unfold checkP; rw [if_pos h0]
    have he : Ending.returned (.tuple #[.int .i64 150, .agg #[.int .i64 0, .int .i64 0, .int .i64 0]]) = .returned (.tuple #[.int .i64 (checkE ts), .agg ((checkAt ts).map (Value.int .i64)).toArray]) := by unfold checkE checkAt; rw [hz]; rfl
    have He := Lib.hid he
    clear he hz h
    by_cases h1 : ts.length = 0
    · generalize checkE ts = ce at *
      generalize checkAt ts = ca at *
      rw [h1]
      go_enter Tryd.func13, Tryd.ntmps13
      go_wp2_with (refine wpList_store_whole rfl 30 (.tmp 3) (.tmp 17) rfl w.heap.size rfl [.int .i64 0, .int .i64 0, .int .i64 0] rfl 30 [.int .i64 0, .int .i64 0, .int .i64 0] (Whole.new w _ _) (by kernel_rfl) rfl rfl ?_; intro w1 hW1 hf1)
      refine bodyPost_ret (results_tmp_whole Tryd.results13 rfl hW1 Tryd.underlying30 rfl (by kernel_rfl)) rfl ?_
      exact ⟨He.out, ((Fr.refl No w).alloc _).next hf1 (fun i hi hg => by simp only [Only] at hg; omega)⟩
    · have h2 : (8 : Int) < (ts.length : Int) := by omega
      have h3 : ((ts.length : Int) == 0) = false := by rw [beq_eq_false_iff_ne]; omega
      generalize checkE ts = ce at *
      generalize checkAt ts = ca at *
      go_enter Tryd.func13, Tryd.ntmps13
      go_wp2_with (refine wpList_store_whole rfl 30 (.tmp 3) (.tmp 17) rfl w.heap.size rfl [.int .i64 0, .int .i64 0, .int .i64 0] rfl 30 [.int .i64 0, .int .i64 0, .int .i64 0] (Whole.new w _ _) (by kernel_rfl) rfl rfl ?_; intro w1 hW1 hf1)
      refine bodyPost_ret (results_tmp_whole Tryd.results13 rfl hW1 Tryd.underlying30 rfl (by kernel_rfl)) rfl ?_
      exact ⟨He.out, ((Fr.refl No w).alloc _).next hf1 (fun i hi hg => by simp only [Only] at hg; omega)⟩
  · have hz : checkP ts = wrongTs 0 ts := by unfold checkP; rw [if_neg h0]
    have h2 : decide ((8 : Int) < (ts.length : Int)) = false := by rw [decide_eq_false_iff_not]; omega
    have h3 : ((ts.length : Int) == 0) = false := by rw [beq_eq_false_iff_ne]; omega
    have hsome : ∀ (q : List Int), checkP ts = some q → Ending.returned (.tuple #[.int .i64 150, .agg (q.map (Value.int .i64)).toArray]) = .returned (.tuple #[.int .i64 (checkE ts), .agg ((checkAt ts).map (Value.int .i64)).toArray]) := fun q hq => by unfold checkE checkAt; rw [hq]; rfl
    have hnone : checkP ts = none → Ending.returned (.tuple #[.int .i64 0, .agg #[.int .i64 0, .int .i64 0, .int .i64 0]]) = .returned (.tuple #[.int .i64 (checkE ts), .agg ((checkAt ts).map (Value.int .i64)).toArray]) := fun hq => by unfold checkE checkAt; rw [hq]; rfl
    generalize checkP ts = cp at *
    generalize checkE ts = ce at *
    generalize checkAt ts = ca at *
    have Hz := Lib.hid hz
    have Hs := Lib.hid hsome
    have Hn := Lib.hid hnone
    clear h0 hz hsome hnone
    go_enter Tryd.func13, Tryd.ntmps13
    go_wp2_with fail
    clear h2 h3
    refine gen_world _ (fun W => Whole W w.heap.size 30 [.int .i64 0, .int .i64 0, .int .i64 0] ∧ ProgAt W (.slice A ts.length c) ts ∧ Fr No w W) ⟨Whole.new w _ _, h.no ((Fr.refl _ _).alloc _), (Fr.refl _ _).alloc _⟩ ?_
    rintro W ⟨hS, hT, hFW⟩
    clear h
    generalize hg3 : w.heap.size = g3 at *
    have Hg3 := Lib.hid hg3
    clear hg3
    go_loopw [20] (fun i wr => ∃ k : Nat, k ≤ ts.length ∧ i = .int .i64 k ∧ Fr No W wr ∧ Hid (cp = wrongTs k (ts.drop k))) (fun i _ => ts.length - (intOf i).toNat)
    case atStart => exact ⟨0, Nat.zero_le _, rfl, Fr.refl _ _, by rw [List.drop_zero]; exact Hz⟩
    case round =>
      obtain ⟨wq, hwq⟩ : ∃ x, x = wr := ⟨_, rfl⟩
      subst hwq
      obtain ⟨k, hk, rfl, hF, hC⟩ := hrel
      by_cases hlt : k < ts.length
      · obtain ⟨bs, hbs⟩ : ∃ d, ts[k]? = some d := ⟨_, List.getElem?_eq_getElem hlt⟩
        have hdrop : ts.drop k = bs :: ts.drop (k + 1) := by
          rw [List.drop_eq_getElem_cons hlt]
          rw [List.getElem?_eq_getElem hlt] at hbs
          injection hbs with hbs
          rw [hbs]
        have hC1 := hC.out
        rw [hdrop] at hC1
        have HC := Lib.hid hC1
        clear hC1 hC hdrop
        obtain ⟨g, o, u, rfl, hg, hu, hR⟩ := (hT.no hF).get hbs
        clear hbs
        have hRk := hR
        obtain ⟨A2, c2, vs2, rfl, hl2, -, -⟩ := hR
        unfold Big at hl2
        have hSq := hF.whole hS (fun x => x)
        have i1 : (0 : Int) ≤ (k : Int) := by omega
        have i2 : (k : Int) < (ts.length : Int) := by omega
        by_cases h6 : 6 < bs.length
        · have h7 : (6 : Int) < (bs.length : Int) := by omega
          go_wp2_with (refine wpList_store_whole rfl 30 (.tmp 3) (.tmp 29) rfl g3 rfl [.int .i64 k, .int .i64 0, .int .i64 0] rfl 30 [.int .i64 0, .int .i64 0, .int .i64 0] hSq (by kernel_rfl) rfl rfl ?_; intro w1 hW1 hf1)
          refine bodyPost_ret (results_tmp_whole Tryd.results13 rfl hW1 Tryd.underlying30 rfl (by kernel_rfl)) rfl ?_
          exact ⟨Hs.out [(k : Int), 0, 0] (by rw [HC.out, wrongTs, if_pos h6]), (hFW.trans hF).next hf1 (fun i hi hg => by have := Hg3.out; simp only [Only] at hg; omega)⟩
        · have h7 : decide ((6 : Int) < (bs.length : Int)) = false := by rw [decide_eq_false_iff_not]; omega
          go_wp2_with fail
          clear h7
          have H6 := Lib.hid h6
          clear h6
          go_loopw [32] (fun i wr => ∃ b : Nat, b ≤ bs.length ∧ i = .int .i64 b ∧ Fr No wq wr ∧ Hid (wrongBs k 0 bs = wrongBs k b (bs.drop b))) (fun i _ => bs.length - (intOf i).toNat)
          case atStart => exact ⟨0, Nat.zero_le _, rfl, Fr.refl _ _, Lib.hid (by rw [List.drop_zero])⟩
          case round =>
            obtain ⟨wp, hwp⟩ : ∃ x, x = wr := ⟨_, rfl⟩
            subst hwp
            obtain ⟨b, hb, rfl, hFb, hB⟩ := hrel
            by_cases hlb : b < bs.length
            · obtain ⟨l, hls⟩ : ∃ d, bs[b]? = some d := ⟨_, List.getElem?_eq_getElem hlb⟩
              have hdrop : bs.drop b = l :: bs.drop (b + 1) := by
                rw [List.drop_eq_getElem_cons hlb]
                rw [List.getElem?_eq_getElem hlb] at hls
                injection hls with hls
                rw [hls]
              have hB1 := hB.out
              rw [hdrop] at hB1
              have HB := Lib.hid hB1
              clear hB1 hB hdrop
              obtain ⟨g2, o2, u2', rfl, hg2, hu2, hR2⟩ := (ThreadAt.no hRk hFb).get hls
              clear hls
              obtain ⟨A5, c5, rfl, hl5, hr5⟩ := hR2
              have Hk := Lib.hid (block_calls l A5 c5 wp hl5 hr5)
              unfold Big at hl5
              have hSp := hFb.whole hSq (fun x => x)
              have j1 : (0 : Int) ≤ (b : Int) := by omega
              have j2 : (b : Int) < (bs.length : Int) := by omega
              by_cases h8 : 0 ≤ blockZ l
              · have HV := Lib.hid (show Hid (wrongBs k 0 bs = some [(k : Int), b, blockZ l]) from Lib.hid (by rw [HB.out, wrongBs, if_pos h8]))
                generalize blockZ l = z at *
                go_wp2_with (first
                  | (go_at_call 26; refine Hk.out.mono ?_; rintro e w4 ⟨rfl, hf4⟩; have hSr := hf4.whole hSp (fun x => x))
                  | (refine wpList_store_whole rfl 30 (.tmp 3) (.tmp 44) rfl g3 rfl [.int .i64 k, .int .i64 b, .int .i64 z] rfl 30 [.int .i64 0, .int .i64 0, .int .i64 0] hSr (by kernel_rfl) rfl rfl ?_; intro w1 hW1 hf1))
                refine bodyPost_ret (results_tmp_whole Tryd.results13 rfl hW1 Tryd.underlying30 rfl (by kernel_rfl)) rfl ?_
                exact ⟨Hs.out [(k : Int), b, z] (by rw [HC.out, wrongTs, if_neg H6.out, HV.out.out]), (((hFW.trans hF).trans hFb).trans hf4).next hf1 (fun i hi hg => by have := Hg3.out; simp only [Only] at hg; omega)⟩
              · have HV := Lib.hid (show Hid (wrongBs k 0 bs = wrongBs k (b + 1) (bs.drop (b + 1))) from Lib.hid (by rw [HB.out, wrongBs, if_neg h8]))
                generalize blockZ l = z at *
                have h9 : decide ((0 : Int) ≤ z) = false := by rw [decide_eq_false_iff_not]; exact h8
                go_wp2_with (go_at_call 26; refine Hk.out.mono ?_; rintro e w4 ⟨rfl, hf4⟩)
                exact ⟨⟨b + 1, by omega, by go_num, hFb.trans hf4, HV.out⟩, by simp [intOf]; omega⟩
            · have hbl : b = bs.length := by omega
              subst hbl
              go_wp2_with fail
              refine ⟨⟨k + 1, by omega, by go_num, hF.trans hFb, Lib.hid ?_⟩, by simp [intOf]; omega⟩
              have h10 := hB.out
              rw [List.drop_length, wrongBs] at h10
              rw [HC.out, wrongTs, if_neg H6.out, h10]
      · have hkl : k = ts.length := by omega
        subst hkl
        have hSq := hF.whole hS (fun x => x)
        go_wp2_with (refine wpList_store_whole rfl 30 (.tmp 3) (.tmp 47) rfl g3 rfl [.int .i64 0, .int .i64 0, .int .i64 0] rfl 30 [.int .i64 0, .int .i64 0, .int .i64 0] hSq (by kernel_rfl) rfl rfl ?_; intro w1 hW1 hf1)
        refine bodyPost_ret (results_tmp_whole Tryd.results13 rfl hW1 Tryd.underlying30 rfl (by kernel_rfl)) rfl ?_
        exact ⟨Hn.out (by have := hC.out; rw [List.drop_length] at this; exact this), (hFW.trans hF).next hf1 (fun i hi hg => by have := Hg3.out; simp only [Only] at hg; omega)⟩
end Go.Proofs.YtbjknkgefpeohaaDoor
