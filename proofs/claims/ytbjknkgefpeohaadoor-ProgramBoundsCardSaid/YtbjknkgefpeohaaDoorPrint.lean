/- Contract of Print: a deed's text. Conditions: the tables of strconv. -/
import Derived.Test.YtbjknkgefpeohaaDoorEnv
import Derived.Lib.ItoaLen
namespace Go.Proofs.YtbjknkgefpeohaaDoor
open Go.RowKit
set_option maxRecDepth 100000
attribute [local go_sem ↓] Go.wp_at_zero Go.wp_at_succ

theorem sl_str : SlTy Tryd.prog 35 9 1 16 := slTy_mk Tryd.underlying35 (z := .string ⟨#[]⟩) (by kernel_rfl) rfl (by decide) (by decide)

def strVals (l : List (List UInt8)) : List Value := l.map (fun x => .string ⟨x.toArray⟩)
theorem strVals_one (l : List (List UInt8)) : ∀ u ∈ strVals l, u.oneCell' = true := by
  intro u hu
  obtain ⟨x, _, rfl⟩ := List.mem_map.1 hu
  rfl

theorem rightP_fits {d : PDeed} (h : rightP d = true) : ∀ p ∈ partsOf d.kind, p.fits d := by
  unfold rightP at h
  rw [Bool.and_eq_true] at h
  intro p hp
  simpa using List.all_eq_true.1 h.1 p hp
theorem partsOf_bd (k : Int) : ∀ p ∈ partsOf k, -1000000 ≤ p.lo ∧ p.hi ≤ 1000000 := by
  intro p hp
  unfold partsOf at hp
  iterate 13 (have hq := mem_ite_or hp; clear hp; rcases hq with hp | hp; (· revert p; decide))
  cases hp

theorem wordOf_len (k : Int) : (wordOf k).length ≤ 5 := by
  unfold wordOf
  iterate 14 (refine len_ite (by decide) ?_)
  decide
theorem joinTail_len (sep : List UInt8) (n : Nat) : ∀ r : List (List UInt8), (∀ x ∈ r, x.length ≤ n) → (Lib.joinTail sep r).length ≤ r.length * (sep.length + n)
  | [], _ => by simp [Lib.joinTail]
  | x :: r, h => by
    have ih := joinTail_len sep n r (fun y hy => h y (List.mem_cons_of_mem _ hy))
    have hx := h x (List.mem_cons_self ..)
    have e : Lib.joinTail sep (x :: r) = (sep ++ x) ++ Lib.joinTail sep r := by simp [Lib.joinTail]
    rw [e, List.length_append, List.length_append, List.length_cons, Nat.add_mul]
    omega
theorem textOf_len {d : PDeed} (h : rightP d = true) : (textOf d).length ≤ 71 := by
  unfold textOf wordsP
  rw [Lib.join_cons, List.length_append]
  have h1 := wordOf_len d.kind
  have h2 := joinTail_len [32] 21 ((partsOf d.kind).map (fun p => Lib.itoa (d.get p.k))) (fun x hx => by
    obtain ⟨p, hp, rfl⟩ := List.mem_map.1 hx
    have h3 := rightP_fits h p hp
    have h4 := partsOf_bd d.kind p hp
    simp only [PPart.fits] at h3
    exact Lib.itoa_length_le _ (by omega) (by omega))
  have h3 := partsOf_len d.kind
  simp only [List.length_map, List.length_cons, List.length_nil] at h2
  have h4 : (partsOf d.kind).length * (0 + 1 + 21) ≤ 3 * (0 + 1 + 21) := Nat.mul_le_mul_right _ h3
  omega

set_option maxHeartbeats 4000000 in
theorem print_calls (d : PDeed) (w : World) (he : Env w) :
    Calls Tryd.prog 11 #[.agg #[.int .i64 d.kind, .int .i64 d.a, .int .i64 d.b, .int .i64 d.i, .int .i64 d.n]] w
      fun e w' => e = .returned (.tuple #[.string ⟨(printP d).toArray⟩, .int .i64 (if rightP d = true then 0 else 1)]) ∧ Fr No w w' := by
  cases hr : rightP d with
  | false =>
    have hP : printP d = [] := by unfold printP; rw [hr]; rfl
    rw [hP]
    go_enter Tryd.func11, Tryd.ntmps11
    go_wp2_with (go_at_call 15; refine (right_calls d _).mono ?_; rintro e w1 ⟨rfl, hf1⟩; obtain ⟨q1, q2, q3⟩ := hf1.cells)
    go_ret2
    exact ⟨rfl, ((Fr.refl _ _).alloc _).trans hf1⟩
  | true =>
    have hP : printP d = textOf d := by unfold printP; rw [hr]; rfl
    go_enter Tryd.func11, Tryd.ntmps11
    go_wp2_with (first
      | (go_at_call 15; refine (right_calls d _).mono ?_; rintro e w1 ⟨rfl, hf1⟩; obtain ⟨q1, q2, q3⟩ := hf1.cells)
      | (go_at_call 20; refine (form_calls d.kind _).mono ?_; rintro e w2 ⟨A, c, rfl, hrow, hf2⟩; obtain ⟨q4, q5, q6⟩ := hf2.cells))
    refine gen_world _ (fun W => Whole W w.heap.size 23 [.int .i64 d.kind, .int .i64 d.a, .int .i64 d.b, .int .i64 d.i, .int .i64 d.n] ∧ Row W 3 A (partsOf d.kind).length c (partRow (partsOf d.kind)) ∧ W.ownsRow (w2.heap.size + 1) 9 1 (.slice (some ⟨w2.heap.size + 1, 0, none⟩) 1 1) 1 (strVals ((wordsP d).take 1)) ∧ w2.heap.size + 1 < W.heap.size ∧ Fr No w W)
      ⟨((hf2.whole (hf1.whole (Whole.new w 23 [.int .i64 d.kind, .int .i64 d.a, .int .i64 d.b, .int .i64 d.i, .int .i64 d.n]) (fun x => x)) (fun x => x)).alloc _).alloc _, (hrow.no ((Fr.refl _ _).alloc _)).no ((Fr.refl _ _).alloc _), ?_, by simp, (((((Fr.refl No w).alloc _).trans hf1).trans hf2).alloc _).alloc _⟩ ?_
    · have h := World.ownsRow_lit (e := 9) (size := 1) (w2.alloc (.cells #[.string ⟨(wordOf d.kind).toArray⟩, .slice A (partsOf d.kind).length c] 48)) (strVals ((wordsP d).take 1)).toArray 1 (Nat.le_refl _) (by decide) rfl
      simpa [strVals, wordsP] using h
    have hrb : ∀ b o, A = some ⟨b, o, none⟩ → 0 < (partsOf d.kind).length → b < w2.heap.size := fun b o hA hp => by
      obtain ⟨b', o', hA', hb, _⟩ := hrow.2.2 hp
      rw [hA] at hA'; injection hA' with hA'; injection hA' with h1 _ _; omega
    have hn : w.heap.size < w2.heap.size := by have h1 := hf1.size; have h2 := hf2.size; simp at h1; omega
    rintro W ⟨hS, hR, hV0, hBW, hFW⟩
    have HE := Lib.hid he
    generalize w2.heap.size = n2 at *
    clear q1 q2 q3 q4 q5 q6 hf1 hf2 hrow he
    have hpl := partsOf_len d.kind
    have Hbd := Lib.hid (partsOf_bd d.kind)
    have Hft := Lib.hid (rightP_fits hr)
    have hwl : (wordsP d).length = (partsOf d.kind).length + 1 := by simp [wordsP]
    have HP := Lib.hid hP
    have Hwl := Lib.hid hwl
    have Htl := Lib.hid (textOf_len hr)
    clear hP hr hwl
    go_loopw [5, 20] (fun v i wr => ∃ k : Nat, k ≤ (partsOf d.kind).length ∧ i = .int .i64 k ∧ wr.ownsRow (n2 + 1) 9 1 v (k + 1) (strVals ((wordsP d).take (k + 1))) ∧ Fr (fun g => n2 + 1 ≤ g) W wr) (fun _ i _ => (partsOf d.kind).length - (intOf i).toNat)
    case atStart => exact ⟨0, Nat.zero_le _, rfl, hV0, Fr.refl _ _⟩
    case round =>
      obtain ⟨wq, hwq⟩ : ∃ x, x = wr := ⟨_, rfl⟩
      subst hwq
      obtain ⟨k, hk, rfl, hV, hF⟩ := hrel
      have hsz := hF.size
      obtain ⟨A1, c1, rfl, hc1, -⟩ := own_form hV
      by_cases hlt : k < (partsOf d.kind).length
      · obtain ⟨p, hp⟩ : ∃ p, (partsOf d.kind)[k]? = some p := ⟨_, List.getElem?_eq_getElem hlt⟩
        have hpk := partsOf_k d.kind p (List.mem_of_getElem? hp)
        have hbd := Hbd.out p (List.mem_of_getElem? hp)
        have hft := Hft.out p (List.mem_of_getElem? hp)
        obtain ⟨b, o, rfl, hb, -⟩ := hR.2.2 (by omega)
        have hbl : b < n2 := hrb b o rfl (by omega)
        have hcell := part_cells (hR.fr hF (fun b' o' hA => by injection hA with hA; injection hA with h1 _ _; omega)) hp
        obtain ⟨d0, d1, d2⟩ := hcell
        have hS' := hF.whole hS (by omega)
        have eS := hS'.cell
        have hSl := hS'.lt
        have htake : (wordsP d).take (k + 1 + 1) = (wordsP d).take (k + 1) ++ [Lib.itoa (d.get p.k)] := by
          rw [List.take_add_one]
          congr 1
          simp [wordsP, hp]
        have HT := Lib.hid htake
        have hfr0 : ∀ w1, Fr (Only wq.heap.size) (wq.alloc (.cells #[.nilFunc, .int .i64 0, .int .i64 0] 52)) w1 → Fr No wq w1 := fun w1 hf1 => ((Fr.refl No wq).alloc _).next hf1 (fun i hi hg => by simp only [Only] at hg; omega)
        have Hfr0 := Lib.hid hfr0
        have HEq : Hid (∀ W', Fr No wq W' → Env W') := Lib.hid (fun W' h => HE.out.fr ((hFW.next hF (fun i hi hg => by omega)).trans h))
        clear hfr0 htake hp
        obtain ⟨pk, lo, hi⟩ := p
        dsimp only at hpk d0 d1 d2 hbd
        have i1 : (0 : Int) ≤ (k : Int) := by omega
        have i2 : (k : Int) < ((partsOf d.kind).length : Int) := by omega
        rcases hpk with rfl | rfl | rfl | rfl
        all_goals
          simp only [fnOf] at d0
          simp only [PPart.fits, PDeed.get] at hft HT
          have Hb := Lib.hid hbd
          have Hf := Lib.hid hft
          have hn3 : Hid ((partsOf d.kind).length ≤ 3) := Lib.hid hpl
          go_wp2_with (first
            | (refine wpList_store_whole rfl 52 (.tmp 7) (.tmp 23) rfl wq.heap.size rfl _ rfl 52 [.nilFunc, .int .i64 0, .int .i64 0] (Whole.new wq _ _) (by kernel_rfl) rfl rfl ?_; intro w1 hW1 hf1; have hf01 := Hfr0.out _ hf1; have eW := hW1.cell; have hWl := hW1.lt; have hS1 := hf01.whole hS' (fun x => x); have eX := hS1.cell; have hSl1 := hS1.lt)
            | (go_at_call 34; refine (deed_a _ _).mono ?_; rintro _ _ ⟨rfl, rfl⟩)
            | (go_at_call 35; refine (deed_b _ _).mono ?_; rintro _ _ ⟨rfl, rfl⟩)
            | (go_at_call 36; refine (deed_i _ _).mono ?_; rintro _ _ ⟨rfl, rfl⟩)
            | (go_at_call 37; refine (deed_n _ _).mono ?_; rintro _ _ ⟨rfl, rfl⟩)
            | (go_at_call 21; refine (itoa_calls _ (by have h1 := Hb.out; have h2 := Hf.out; omega) (by have h1 := Hb.out; have h2 := Hf.out; omega) _ (HEq.out _ (hf01.alloc _))).mono ?_; rintro _ w5 ⟨rfl, hf5⟩; have hf05 := (hf01.alloc _).trans hf5)
            | (at_builtin; refine wpList_apps sl_str _ rfl _ _ rfl (n2 + 1) (.slice A1 (k + 1) c1) (k + 1) _ rfl (own_fr hV (hf05.alloc _) (fun _ _ x => x)) (some ⟨w5.heap.size, 0, none⟩) 1 1 [.string ⟨(Lib.itoa _).toArray⟩] rfl (Row.of_whole (Whole.new w5 _ _) 1 1 rfl) (by intro u hu; simp at hu; subst hu; rfl) (by unfold Cap; have := hn3.out; omega) (by have h1 := hf05.size; simp; omega) ?_; intro A6 c6 w6 hown6 hg6 hb6; refine Hid.out ?_))
        all_goals
          refine Lib.hid ?_
          go_wp2_with fail
          refine ⟨⟨k + 1, by omega, by go_num, ?_, hF.trans (((hf05.alloc _).mono (fun _ _ h => h.elim)).grown hg6 (fun g hg => Or.inl (hV.lt g hg).1))⟩, by simp [intOf]; omega⟩
          rw [HT.out]
          simpa [strVals] using hown6
      · have hkl : k = (partsOf d.kind).length := by omega
        subst hkl
        have hrw := Row.of_own hV
        obtain ⟨b1, o1, rfl, hb1, hcs⟩ := hrw.2.2 (by omega)
        have hxl : ((wordsP d).map (fun x => (⟨x.toArray⟩ : ByteArray))).length = (partsOf d.kind).length + 1 := by rw [List.length_map, Hwl.out]
        have htk : (wordsP d).take ((partsOf d.kind).length + 1) = wordsP d := List.take_of_length_le (by rw [Hwl.out]; exact Nat.le_refl _)
        rw [htk] at hcs
        have hmm : ((wordsP d).map (fun x => (⟨x.toArray⟩ : ByteArray))).map (·.data.toList) = wordsP d := by
          rw [List.map_map]
          exact List.map_id _
        have hj := Tryd.strings_Join b1 o1 c1 ((wordsP d).map (fun x => (⟨x.toArray⟩ : ByteArray))) ⟨#[32]⟩ wq (fun j x hx => hcs j (.string x) (by
          rw [List.getElem?_map] at hx
          obtain ⟨y, hy, rfl⟩ := Option.map_eq_some_iff.1 hx
          simp [strVals, hy])) hb1 (by rw [hxl]; omega) (by rw [hxl]; exact hc1) (by rw [hmm]; exact Nat.le_trans Htl.out (by decide))
        rw [hmm, hxl] at hj
        have HJ := Lib.hid hj
        clear hj hcs hrw hxl htk hmm
        go_wp2_with (go_at_call 22; refine HJ.out.mono ?_; rintro e w9 ⟨rfl, hb9⟩; have hf9 := fr_of_below hb9)
        go_ret2
        exact ⟨by rw [HP.out]; rfl, (hFW.next hF (fun i hi hg => by omega)).trans hf9⟩
end Go.Proofs.YtbjknkgefpeohaaDoor
