/- Contract of Parse: the deed of a text. Conditions: the tables and errors of strconv; fewer than 2^32 bytes. -/
import Derived.Test.YtbjknkgefpeohaaDoorPrint
import Derived.Test.YtbjknkgefpeohaaDoorSplit
import Derived.Test.YtbjknkgefpeohaaDoorCheck
import Derived.Test.YtbjknkgefpeohaaDoorStepCall
namespace Go.Proofs.YtbjknkgefpeohaaDoor
open Go.RowKit
set_option maxRecDepth 100000
attribute [local go_sem ↓] Go.wp_at_zero Go.wp_at_succ

set_option maxHeartbeats 4000000 in
theorem parse_calls (s : ByteArray) (hs : s.size < 4294967281) (w : World) (he : Env w) :
    Calls Tryd.prog 18 #[.string s] w
      fun e w' => e = .returned (.tuple #[.agg #[.int .i64 (parseD s.data.toList).kind, .int .i64 (parseD s.data.toList).a, .int .i64 (parseD s.data.toList).b, .int .i64 (parseD s.data.toList).i, .int .i64 (parseD s.data.toList).n], .int .i64 (parseE s.data.toList)]) ∧ Fr No w w' := by
  have hz : parseP s.data.toList = parseK s.data.toList (wordsOf s.data.toList) 14 1 := rfl
  have hsome : ∀ d : PDeed, parseP s.data.toList = some d → Ending.returned (.tuple #[.agg #[.int .i64 d.kind, .int .i64 d.a, .int .i64 d.b, .int .i64 d.i, .int .i64 d.n], .int .i64 0]) = .returned (.tuple #[.agg #[.int .i64 (parseD s.data.toList).kind, .int .i64 (parseD s.data.toList).a, .int .i64 (parseD s.data.toList).b, .int .i64 (parseD s.data.toList).i, .int .i64 (parseD s.data.toList).n], .int .i64 (parseE s.data.toList)]) := fun d hd => by unfold parseD parseE; rw [hd]; rfl
  have hnone : parseP s.data.toList = none → Ending.returned (.tuple #[.agg #[.int .i64 0, .int .i64 0, .int .i64 0, .int .i64 0, .int .i64 0], .int .i64 151]) = .returned (.tuple #[.agg #[.int .i64 (parseD s.data.toList).kind, .int .i64 (parseD s.data.toList).a, .int .i64 (parseD s.data.toList).b, .int .i64 (parseD s.data.toList).i, .int .i64 (parseD s.data.toList).n], .int .i64 (parseE s.data.toList)]) := fun hd => by unfold parseD parseE; rw [hd]; rfl
  generalize parseP s.data.toList = pp at *
  generalize parseD s.data.toList = pd at *
  generalize parseE s.data.toList = pe at *
  have Hz := Lib.hid hz
  have Hs := Lib.hid hsome
  have Hn := Lib.hid hnone
  clear hz hsome hnone
  go_enter Tryd.func18, Tryd.ntmps18
  go_wp2_with (go_at_call 29; refine (split_calls s hs _ (he.fr ((Fr.refl _ _).alloc _))).mono ?_; rintro e w1 ⟨bw, rfl, hbw, hb1, hb2, hW, hf1⟩)
  refine gen_world _ (fun W => Whole W w.heap.size 23 [.int .i64 0, .int .i64 0, .int .i64 0, .int .i64 0, .int .i64 0] ∧ Whole W (w.heap.size + 1) 9 (bw.map Value.string) ∧ Fr No w W) ⟨hf1.whole (Whole.new w _ _) (fun x => x), by simpa using hW, ((Fr.refl _ _).alloc _).trans hf1⟩ ?_
  rintro W ⟨hS, hB, hFW⟩
  clear hf1 hW
  have Hbw := Lib.hid hbw
  clear hbw
  generalize hg2 : w.heap.size = g2 at *
  have Hg2 := Lib.hid hg2
  clear hg2
  obtain ⟨L, hL⟩ : ∃ L, L = bw.length := ⟨_, rfl⟩
  rw [← hL] at hb1 hb2 ⊢
  have HL := Lib.hid hL
  clear hL
  go_loopw [5] (fun i wr => ∃ j : Nat, j ≤ 14 ∧ i = .int .i64 (1 + (j : Int)) ∧ Fr No W wr ∧ Hid (pp = parseK s.data.toList (wordsOf s.data.toList) (14 - j) (1 + (j : Int)))) (fun i _ => 15 - (intOf i).toNat)
  case atStart => exact ⟨0, by omega, rfl, Fr.refl _ _, Hz⟩
  case round =>
    obtain ⟨wq, hwq⟩ : ∃ x, x = wr := ⟨_, rfl⟩
    subst hwq
    obtain ⟨j, hj, rfl, hF, hP⟩ := hrel
    have hSq := hF.whole hS (fun x => x)
    have hBq := hF.whole hB (fun x => x)
    by_cases hlt : j < 14
    · obtain ⟨k, hk⟩ : ∃ k : Int, k = 1 + (j : Int) := ⟨_, rfl⟩
      rw [← hk] at hP ⊢
      have i1 : 1 ≤ k := by omega
      have i2 : k ≤ 14 := by omega
      have Hk := Lib.hid hk
      clear hk
      go_wp2_with (go_at_call 20; refine (form_calls k _).mono ?_; rintro e w2 ⟨A, c, rfl, hrow, hf2⟩; obtain ⟨q4, q5, q6⟩ := hf2.cells)
      refine gen_world _ (fun W2 => Whole W2 w2.heap.size 48 [.string ⟨(wordOf k).toArray⟩, .slice A (partsOf k).length c] ∧ Row W2 3 A (partsOf k).length c (partRow (partsOf k)) ∧ Fr No wq W2) ⟨Whole.new w2 _ _, hrow.no ((Fr.refl _ _).alloc _), hf2.alloc _⟩ ?_
      rintro W2 ⟨hFm, hR, hF2⟩
      have hrb : ∀ b o, A = some ⟨b, o, none⟩ → 0 < (partsOf k).length → b < w2.heap.size := fun b o hA hp => by
        obtain ⟨b', o', hA', hb, _⟩ := hrow.2.2 hp
        rw [hA] at hA'; injection hA' with hA'; injection hA' with h1 _ _; omega
      have hn : wq.heap.size ≤ w2.heap.size := hf2.size
      generalize w2.heap.size = n2 at *
      clear q4 q5 q6 hf2 hrow
      have hS2 := hF2.whole hSq (fun x => x)
      have hB2 := hF2.whole hBq (fun x => x)
      obtain ⟨b0, hb0⟩ : ∃ x, bw[0]? = some x := ⟨_, List.getElem?_eq_getElem (by have := HL.out; omega)⟩
      have hhd : (wordsOf s.data.toList).headD [] = b0.data.toList := by
        rw [← Hbw.out, List.headD_eq_head?_getD, List.head?_eq_getElem?, List.getElem?_map, hb0]
        rfl
      have Hhd := Lib.hid hhd
      have eB := hB2.cell 0
      rw [List.getElem?_map, hb0] at eB
      simp only [Option.map_some] at eB
      clear hb0 hhd
      have eF := hFm.cell
      have hFl := hFm.lt
      have hBl := hB2.lt
      have i3 : (0 : Int) < (L : Int) := by omega
      cases hw : (wordOf k == ByteArray.toList b0) with
      | false =>
        go_quiet (fail)
        go_wp2_with fail
        have hkk := Hk.out
        have hnx : pp = parseK s.data.toList (wordsOf s.data.toList) (14 - (j + 1)) (1 + ((j + 1 : Nat) : Int)) := by
          have h1 := hP.out
          rw [hkk, parseK_none hlt (tryP_word (by rw [← hkk, Hhd.out]; intro h2; rw [beq_eq_false_iff_ne] at hw; exact hw (by rw [ByteArray.toList_eq]; exact h2)))] at h1
          exact h1
        refine ⟨⟨j + 1, by omega, by rw [hkk]; congr 1, (hF.trans hF2).drewN _, Lib.hid hnx⟩, by simp [intOf]; omega⟩
      | true =>
        by_cases hln : L = (partsOf k).length + 1
        · have hw64 : wrap64 (1 + ((partsOf k).length : Int)) = ((partsOf k).length : Int) + 1 := by have := partsOf_len k; unfold wrap64; omega
          have hl1 : ((L : Int) != ((partsOf k).length : Int) + 1) = false := by rw [bne_eq_false_iff_eq]; omega
          have Hln := Lib.hid hln
          clear hln
          go_cut [34] from 20 to 34 (fun v wx => v = .bool false ∧ ∃ n, wx = W2.drewN n)
          case first =>
            go_quiet (fail)
            try (go_wp2_with fail)
            go_meet
            exact ⟨rfl, _, rfl⟩
          case rest =>
            obtain ⟨rfl, nn, rfl⟩ := hcut
            have hFn : Whole (W2.drewN nn) n2 48 [.string ⟨(wordOf k).toArray⟩, .slice A (partsOf k).length c] := hFm
            have ea := fun (o : Obj) => (hFn.alloc o).cell
            go_wp2_with fail
            refine gen_world _ (fun V => Whole V W2.heap.size 57 [.int .i64 k, .int .i64 0, .int .i64 0, .int .i64 0, .int .i64 0] ∧ Whole V (g2 + 1) 9 (bw.map Value.string) ∧ Whole V g2 23 [.int .i64 0, .int .i64 0, .int .i64 0, .int .i64 0, .int .i64 0] ∧ Row V 3 A (partsOf k).length c (partRow (partsOf k)) ∧ Fr No wq V) ⟨Whole.new (W2.drewN nn) _ _, (show Whole (W2.drewN nn) _ _ _ from hB2).alloc _, (show Whole (W2.drewN nn) _ _ _ from hS2).alloc _, hR.no (((Fr.refl _ _).drewN nn).alloc _), (hF2.drewN nn).alloc _⟩ ?_
            have hbx : n2 < W2.heap.size := hFl
            have hbx1 : g2 + 1 < W2.heap.size := hBl
            rintro V ⟨hX, hBV, hSV, hRV, hFV⟩
            generalize W2.heap.size = bx at *
            have Hin := Lib.hid (show ((0 : Nat) < 1) from by decide)
            clear ea hFn eF eB hFm hR hS2 hB2 hF2 hFl hBl
            go_loopw [42] (fun i wr => ∃ q : Nat, q ≤ (partsOf k).length ∧ i = .int .i64 q ∧ ∃ x : PDeed, Whole wr bx 57 [.int .i64 x.kind, .int .i64 x.a, .int .i64 x.b, .int .i64 x.i, .int .i64 x.n] ∧ Hid (candP (wordsOf s.data.toList) k = fillP (wordsOf s.data.toList) (1 + q) ((partsOf k).drop q) x) ∧ Fr (Only bx) V wr) (fun i _ => (partsOf k).length - (intOf i).toNat)
            case atStart => exact ⟨0, Nat.zero_le _, rfl, ⟨k, 0, 0, 0, 0⟩, hX, Lib.hid rfl, Fr.refl _ _⟩
            case round =>
              obtain ⟨wp, hwp⟩ : ∃ x, x = wr := ⟨_, rfl⟩
              subst hwp
              obtain ⟨q, hq, rfl, x, hXq, hC, hFq⟩ := hrel
              by_cases hlq : q < (partsOf k).length
              · obtain ⟨p, hp⟩ : ∃ p, (partsOf k)[q]? = some p := ⟨_, List.getElem?_eq_getElem hlq⟩
                have hpk := partsOf_k k p (List.mem_of_getElem? hp)
                obtain ⟨b, o, rfl, hb, -⟩ := hRV.2.2 (by omega)
                have hbl : b < n2 := hrb b o rfl (by omega)
                have hcell := part_cells (hRV.fr hFq (fun b' o' hA => by injection hA with hA; injection hA with h1 _ _; simp only [Only]; omega)) hp
                obtain ⟨d0, d1, d2⟩ := hcell
                have hBq2 := hFq.whole hBV (by simp only [Only]; omega)
                have hdrop : (partsOf k).drop q = p :: (partsOf k).drop (q + 1) := by
                  rw [List.drop_eq_getElem_cons hlq]
                  rw [List.getElem?_eq_getElem hlq] at hp
                  injection hp with hp
                  rw [hp]
                obtain ⟨z, hz⟩ : ∃ z, bw[1 + q]? = some z := ⟨_, List.getElem?_eq_getElem (by have := HL.out; have := Hln.out; omega)⟩
                have hzw : (wordsOf s.data.toList).getD (1 + q) [] = z.data.toList := by
                  rw [← Hbw.out, List.getD_eq_getElem?_getD, List.getElem?_map, hz]
                  rfl
                have hC1 : candP (wordsOf s.data.toList) k = fillP (wordsOf s.data.toList) (1 + (q + 1)) ((partsOf k).drop (q + 1)) (x.set p.k (atoiVal z.data.toList)) := by
                  rw [hC.out, hdrop, fillP, hzw]
                  rfl
                have HC1 := Lib.hid hC1
                have hzs : z.size ≤ 281474976710656 := by
                  have h1 := wordsOf_le s.data.toList z.data.toList (by
                    rw [← hzw, List.getD_eq_getElem?_getD, ← Hbw.out, List.getElem?_map, hz]
                    rw [← Hbw.out] at *
                    exact List.mem_map.2 ⟨z, List.mem_of_getElem? hz, rfl⟩)
                  have h2 : z.data.toList.length = z.size := rfl
                  have h3 : s.data.toList.length = s.size := rfl
                  omega
                have ez0 : (bw.map Value.string)[1 + q]? = some (.string z) := by rw [List.getElem?_map, hz]; rfl
                have Hez := Lib.hid ez0
                have i1 : (0 : Int) ≤ (q : Int) := by omega
                have i2 : (q : Int) < ((partsOf k).length : Int) := by omega
                have Hlq := Lib.hid hlq
                clear hp hdrop hz hzw hC1 hC ez0 hRV hlq
                obtain ⟨pk, lo, hi⟩ := p
                dsimp only at hpk d0 d1 d2 HC1
                obtain ⟨y, hy⟩ : ∃ y, y = x.set pk (atoiVal z.data.toList) := ⟨_, rfl⟩
                rw [← hy] at HC1
                have Hy := Lib.hid hy
                clear hy
                have hXl := hXq.lt
                have hBl2 := hBq2.lt
                have hEq : ∀ W', Fr No wp W' → Env W' := fun W' h => he.fr ((((hFW.trans hF).trans hFV).next hFq (fun i hi hg => by simp only [Only] at hg; have := hFW.size; have := hF.size; have := Hg2.out; omega)).trans h)
                have HEq := Lib.hid hEq
                clear hEq
                have j1 : (0 : Int) ≤ 1 + (q : Int) := by omega
                have j2 : 1 + (q : Int) < (L : Int) := by have := Hln.out; have := Hlq.out; omega
                rcases hpk with rfl | rfl | rfl | rfl
                all_goals
                  simp only [fnOf] at d0
                  go_wp2_with (refine wpList_store_whole rfl 52 (.tmp 9) (.tmp 46) rfl wp.heap.size rfl _ rfl 52 [.nilFunc, .int .i64 0, .int .i64 0] (Whole.new wp _ _) (by kernel_rfl) rfl rfl ?_; intro w1 hW1 hf1)
                  refine gen_world _ (fun V1 => Whole V1 wp.heap.size 52 _ ∧ Whole V1 bx 57 [.int .i64 x.kind, .int .i64 x.a, .int .i64 x.b, .int .i64 x.i, .int .i64 x.n] ∧ Whole V1 (g2 + 1) 9 (bw.map Value.string) ∧ Fr No wp V1) ⟨hW1, hf1.whole (hXq.alloc _) (by simp only [Only]; omega), hf1.whole (hBq2.alloc _) (by simp only [Only]; omega), ((Fr.refl No wp).alloc _).next hf1 (fun i hi hg => by simp only [Only] at hg; omega)⟩ ?_
                  rintro V1 ⟨hPt, hX1, hB1, hF1⟩
                  clear hW1 hf1 w1
                  generalize wp.heap.size = g9 at *
                  have ePt := hPt.cell
                  have eX1 := hX1.cell
                  have fX1 := hX1.frozen
                  have lX1 := hX1.lt
                  have lB1 := hB1.lt
                  have lP1 := hPt.lt
                  have eB1 := (hB1.cell (1 + q)).trans Hez.out
                  have j3 : IntKind.i64.wrap (1 + (q : Int)) = 1 + (q : Int) := IntWalk.i64_in _ (by omega)
                  have j4 : (1 + (q : Int)).toNat = 1 + q := by omega
                  go_simp
                  refine wp_last ?_
                  intro K2 hK2
                  go_cut [] from 47 to 60 (fun wx => Whole wx bx 57 [.int .i64 y.kind, .int .i64 y.a, .int .i64 y.b, .int .i64 y.i, .int .i64 y.n] ∧ Fr (Only bx) wp wx)
                  case first =>
                    go_region_with (first
                      | (go_at_call 34; refine (deed_a _ _).mono ?_; rintro _ _ ⟨rfl, rfl⟩)
                      | (go_at_call 35; refine (deed_b _ _).mono ?_; rintro _ _ ⟨rfl, rfl⟩)
                      | (go_at_call 36; refine (deed_i _ _).mono ?_; rintro _ _ ⟨rfl, rfl⟩)
                      | (go_at_call 37; refine (deed_n _ _).mono ?_; rintro _ _ ⟨rfl, rfl⟩)
                      | (go_at_call 30; refine (atoi_calls z hzs _ (HEq.out _ (hF1.drewN _))).mono ?_; rintro e w5 ⟨v5, rfl, hv5, hf5⟩; have hX5 := hf5.whole hX1 (fun x => x); have hP5 := hf5.whole hPt (fun x => x); have eX5 := hX5.cell; have fX5 := hX5.frozen; have lX5 := hX5.lt; have eP5 := hP5.cell))
                    all_goals
                      go_wp2_with fail
                      go_meet
                      have hyy := Hy.out
                      subst hyy
                      exact ⟨hX5.set _ _, (((hF1.drewN _).trans hf5).mono (fun _ _ h => h.elim)).set _ _ (Or.inl (only_self _)) _⟩
                  case rest =>
                    obtain ⟨hXy, hFy⟩ := hcut
                    refine hK2 _ _ ?_
                    have hlq := Hlq.out
                    go_wp2_with fail
                    exact ⟨⟨q + 1, by omega, by go_num, y, hXy, HC1, hFq.trans hFy⟩, by simp [intOf]; omega⟩
              · have hql : q = (partsOf k).length := by omega
                subst hql
                have HC : Hid (candP (wordsOf s.data.toList) k = x) := Lib.hid (by rw [hC.out, List.drop_length]; rfl)
                have eX : ∀ i, wp.cell? ⟨bx, i, none⟩ = ([.int .i64 x.kind, .int .i64 x.a, .int .i64 x.b, .int .i64 x.i, .int .i64 x.n] : List Value)[i]? := hXq.cell
                have hXl := hXq.lt
                have HE : Hid (Env wp) := Lib.hid (he.fr (((hFW.trans hF).trans hFV).next hFq (fun i hi hg => by simp only [Only] at hg; have := hFW.size; have := hF.size; have := Hg2.out; omega)))
                have hSp : Whole wp g2 23 [.int .i64 0, .int .i64 0, .int .i64 0, .int .i64 0, .int .i64 0] := hFq.whole hSV (by simp only [Only]; omega)
                have Hpr := Lib.hid (print_calls x wp HE.out)
                cases hr : rightP x with
                | false =>
                  rw [hr] at Hpr
                  go_wp2_with (go_at_call 11; refine Hpr.out.mono ?_; rintro e w5 ⟨rfl, hf5⟩)
                  have hkk := Hk.out
                  have hnx : pp = parseK s.data.toList (wordsOf s.data.toList) (14 - (j + 1)) (1 + ((j + 1 : Nat) : Int)) := by
                    have h1 := hP.out
                    rw [hkk, parseK_none hlt (tryP_right (by rw [← hkk, HC.out]; exact hr))] at h1
                    exact h1
                  refine ⟨⟨j + 1, by omega, by rw [hkk]; congr 1, (hF.trans hFV).next (hFq.trans (hf5.mono (fun _ _ h => h.elim))) (fun i hi hg => by simp only [Only] at hg; have := hF.size; omega), Lib.hid hnx⟩, by simp [intOf]; omega⟩
                | true =>
                  rw [hr] at Hpr
                  have hpt : printP x = textOf x := by unfold printP; rw [hr]; rfl
                  rw [hpt] at Hpr
                  have Hr := Lib.hid hr
                  clear hr hpt
                  have hsz : s.data.toList = ByteArray.toList s := by rw [ByteArray.toList_eq]
                  by_cases htx : textOf x = s.data.toList
                  · have hte : (textOf x == ByteArray.toList s) = true := by rw [beq_iff_eq, ← hsz]; exact htx
                    have Htx := Lib.hid htx
                    clear htx hsz
                    go_wp2_with (first
                      | (go_at_call 11; refine Hpr.out.mono ?_; rintro e w5 ⟨rfl, hf5⟩; have hX5 := hf5.whole hXq (fun x => x); have eX5 : ∀ i, w5.cell? ⟨bx, i, none⟩ = ([.int .i64 x.kind, .int .i64 x.a, .int .i64 x.b, .int .i64 x.i, .int .i64 x.n] : List Value)[i]? := hX5.cell; have hXl5 := hX5.lt; have hS5 := hf5.whole hSp (fun x => x))
                      | (refine wpList_store_whole rfl 23 (.tmp 2) (.tmp 80) rfl g2 rfl [.int .i64 x.kind, .int .i64 x.a, .int .i64 x.b, .int .i64 x.i, .int .i64 x.n] rfl 23 [.int .i64 0, .int .i64 0, .int .i64 0, .int .i64 0, .int .i64 0] hS5 (by kernel_rfl) rfl rfl ?_; intro w6 hW6 hf6))
                    refine bodyPost_ret (results_whole_tmp Tryd.results18 rfl hW6 Tryd.underlying23 rfl (by kernel_rfl)) rfl ?_
                    refine ⟨Hs.out x ?_, (((hFW.trans hF).trans hFV).next (hFq.trans (hf5.mono (fun _ _ h => h.elim))) (fun i hi hg => by simp only [Only] at hg; have := hFW.size; have := hF.size; have := Hg2.out; omega)).next hf6 (fun i hi hg => by have := Hg2.out; simp only [Only] at hg; omega)⟩
                    have hkk := Hk.out
                    have h1 := hP.out
                    rw [hkk, parseK_some hlt (tryP_some (x := x) (by rw [← hkk]; exact HC.out) (by rw [← hkk, Hhd.out]; rw [ByteArray.toList_eq] at hw; exact beq_iff_eq.1 hw) (by rw [← hkk, ← Hbw.out, List.length_map, ← HL.out, Hln.out]; omega) Hr.out Htx.out)] at h1
                    exact h1
                  · have hte : (textOf x == ByteArray.toList s) = false := by rw [beq_eq_false_iff_ne, ← hsz]; exact htx
                    have Htx := Lib.hid htx
                    clear htx hsz
                    go_wp2_with (go_at_call 11; refine Hpr.out.mono ?_; rintro e w5 ⟨rfl, hf5⟩)
                    have hkk := Hk.out
                    have hnx : pp = parseK s.data.toList (wordsOf s.data.toList) (14 - (j + 1)) (1 + ((j + 1 : Nat) : Int)) := by
                      have h1 := hP.out
                      rw [hkk, parseK_none hlt (tryP_text (by rw [← hkk, HC.out]; exact Htx.out))] at h1
                      exact h1
                    refine ⟨⟨j + 1, by omega, by rw [hkk]; congr 1, (hF.trans hFV).next (hFq.trans (hf5.mono (fun _ _ h => h.elim))) (fun i hi hg => by simp only [Only] at hg; have := hF.size; omega), Lib.hid hnx⟩, by simp [intOf]; omega⟩
        · have hw64 : wrap64 (1 + ((partsOf k).length : Int)) = ((partsOf k).length : Int) + 1 := by have := partsOf_len k; unfold wrap64; omega
          have hl1 : ((L : Int) != ((partsOf k).length : Int) + 1) = true := by rw [bne_iff_ne]; omega
          have Hln := Lib.hid hln
          clear hln
          go_quiet (fail)
          go_wp2_with fail
          have hkk := Hk.out
          have hnx : pp = parseK s.data.toList (wordsOf s.data.toList) (14 - (j + 1)) (1 + ((j + 1 : Nat) : Int)) := by
            have h1 := hP.out
            rw [hkk, parseK_none hlt (tryP_len (by rw [← hkk, ← Hbw.out, List.length_map, ← HL.out]; have := Hln.out; omega))] at h1
            exact h1
          refine ⟨⟨j + 1, by omega, by rw [hkk]; congr 1, (hF.trans hF2).drewN _, Lib.hid hnx⟩, by simp [intOf]; omega⟩
    · have hj14 : j = 14 := by omega
      subst hj14
      go_wp2_with (refine wpList_store_whole rfl 23 (.tmp 2) (.tmp 81) rfl g2 rfl [.int .i64 0, .int .i64 0, .int .i64 0, .int .i64 0, .int .i64 0] rfl 23 [.int .i64 0, .int .i64 0, .int .i64 0, .int .i64 0, .int .i64 0] hSq (by kernel_rfl) rfl rfl ?_; intro w1 hW1 hf1)
      refine bodyPost_ret (results_whole_tmp Tryd.results18 rfl hW1 Tryd.underlying23 rfl (by kernel_rfl)) rfl ?_
      exact ⟨Hn.out (by rw [hP.out]; rfl), (hFW.trans hF).next hf1 (fun i hi hg => by have := Hg2.out; simp only [Only] at hg; omega)⟩
end Go.Proofs.YtbjknkgefpeohaaDoor
