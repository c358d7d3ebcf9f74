/- Contract of Right: whether a deed is right. Conditions: none. -/
import Derived.Test.YtbjknkgefpeohaaDoorForm
import Derived.Deep.DeepCutAuto
namespace Go.Proofs.YtbjknkgefpeohaaDoor
open Go.RowKit
set_option maxRecDepth 100000
attribute [local go_sem ↓] Go.wp_at_zero Go.wp_at_succ

theorem deed_a (g : Nat) (w : World) : Calls Tryd.prog 34 #[.pointer (some ⟨g, 0, none⟩)] w fun e w' => e = .returned (.pointer (some ⟨g, 1, none⟩)) ∧ w = w' := by
  go_enter Tryd.func34, Tryd.ntmps34
  go_wp2
  go_ret
  exact ⟨rfl, rfl⟩
theorem deed_b (g : Nat) (w : World) : Calls Tryd.prog 35 #[.pointer (some ⟨g, 0, none⟩)] w fun e w' => e = .returned (.pointer (some ⟨g, 2, none⟩)) ∧ w = w' := by
  go_enter Tryd.func35, Tryd.ntmps35
  go_wp2
  go_ret
  exact ⟨rfl, rfl⟩
theorem deed_i (g : Nat) (w : World) : Calls Tryd.prog 36 #[.pointer (some ⟨g, 0, none⟩)] w fun e w' => e = .returned (.pointer (some ⟨g, 3, none⟩)) ∧ w = w' := by
  go_enter Tryd.func36, Tryd.ntmps36
  go_wp2
  go_ret
  exact ⟨rfl, rfl⟩
theorem deed_n (g : Nat) (w : World) : Calls Tryd.prog 37 #[.pointer (some ⟨g, 0, none⟩)] w fun e w' => e = .returned (.pointer (some ⟨g, 4, none⟩)) ∧ w = w' := by
  go_enter Tryd.func37, Tryd.ntmps37
  go_wp2
  go_ret
  exact ⟨rfl, rfl⟩

def deedCells (d : PDeed) : List Value := [.int .i64 d.kind, .int .i64 d.a, .int .i64 d.b, .int .i64 d.i, .int .i64 d.n]

theorem partRow_length (l : List PPart) : (partRow l).length = l.length * 3 := by
  induction l with
  | nil => rfl
  | cons r l ih => simp [partRow] at ih ⊢; rw [ih]; simp [partCells]; omega
theorem partRow_get (l : List PPart) : ∀ (i : Nat) (p : PPart) (j : Nat), l[i]? = some p → j < 3 → (partRow l)[i * 3 + j]? = (partCells p)[j]? := by
  induction l with
  | nil => intro i r j h; simp at h
  | cons x l ih =>
    intro i r j h hj
    have hc : partRow (x :: l) = partCells x ++ partRow l := rfl
    rw [hc]
    cases i with
    | zero =>
      simp at h; subst h
      rw [List.getElem?_append_left (by simp [partCells]; omega)]
      simp
    | succ i =>
      rw [List.getElem?_append_right (by simp [partCells]; omega)]
      have := ih i r j (by simpa using h) hj
      rw [← this]
      congr 1
      simp [partCells]
      omega
theorem part_cells {w : World} {b o c : Nat} {l : List PPart} {k : Nat} {p : PPart} (h : Row w 3 (some ⟨b, o, none⟩) l.length c (partRow l)) (hk : l[k]? = some p) :
    w.cell? ⟨b, o + k * 3, none⟩ = some (fnOf p.k) ∧ w.cell? ⟨b, o + k * 3 + 1, none⟩ = some (.int .i64 p.lo) ∧ w.cell? ⟨b, o + k * 3 + 2, none⟩ = some (.int .i64 p.hi) := by
  have hkl : k < l.length := (List.getElem?_eq_some_iff.1 hk).1
  obtain ⟨b', o', hA, _, hc⟩ := h.2.2 (by omega)
  injection hA with hA; injection hA with hb ho _; subst hb; subst ho
  exact ⟨hc _ _ (partRow_get l k p 0 hk (by decide)), hc _ _ (partRow_get l k p 1 hk (by decide)), hc _ _ (partRow_get l k p 2 hk (by decide))⟩
theorem rightP_not (d : PDeed) (p : PPart) (hp : p ∈ partsOf d.kind) (hf : ¬ p.fits d) : rightP d = false := by
  unfold rightP
  rw [Bool.and_eq_false_iff]
  exact .inl (by rw [List.all_eq_false]; exact ⟨p, hp, by simpa using hf⟩)

theorem rightP_only (d : PDeed) (h : onlyOf d (partsOf d.kind) ≠ d) : rightP d = false := by
  unfold rightP
  rw [Bool.and_eq_false_iff, Bool.and_eq_false_iff]
  exact .inr (.inr (by simpa using h))
theorem set_kind (d : PDeed) (k : Nat) (v : Int) (hk : k = 1 ∨ k = 2 ∨ k = 3 ∨ k = 4) : (d.set k v).kind = d.kind := by
  rcases hk with rfl | rfl | rfl | rfl <;> rfl
theorem onlyOf_kind (d : PDeed) (k : Int) : (onlyOf d (partsOf k)).kind = d.kind := by
  have h := partsOf_k k
  unfold onlyOf
  generalize partsOf k = l at h
  have : ∀ (l : List PPart) (o : PDeed), (∀ p ∈ l, p.k = 1 ∨ p.k = 2 ∨ p.k = 3 ∨ p.k = 4) → o.kind = d.kind → (l.foldl (fun o p => o.set p.k (d.get p.k)) o).kind = d.kind := by
    intro l
    induction l with
    | nil => intro o _ ho; exact ho
    | cons p l ih => intro o hl ho; exact ih _ (fun q hq => hl q (List.mem_cons_of_mem _ hq)) (by rw [set_kind _ _ _ (hl p (List.mem_cons_self ..))]; exact ho)
  exact this l _ h rfl

set_option maxHeartbeats 4000000 in
theorem right_calls (d : PDeed) (w : World) :
    Calls Tryd.prog 15 #[.agg #[.int .i64 d.kind, .int .i64 d.a, .int .i64 d.b, .int .i64 d.i, .int .i64 d.n]] w fun e w' => e = .returned (.bool (rightP d)) ∧ Fr No w w' := by
  go_enter Tryd.func15, Tryd.ntmps15
  go_wp2_with (go_at_call 20; refine (form_calls d.kind _).mono ?_; rintro e w1 ⟨A, c, rfl, hrow, hf1⟩; obtain ⟨q1, q2, q3⟩ := hf1.cells)
  refine gen_world _ (fun W => Whole W w.heap.size 23 [.int .i64 d.kind, .int .i64 d.a, .int .i64 d.b, .int .i64 d.i, .int .i64 d.n] ∧ Whole W w1.heap.size 48 [.string ⟨(wordOf d.kind).toArray⟩, .slice A (partsOf d.kind).length c] ∧ Row W 3 A (partsOf d.kind).length c (partRow (partsOf d.kind)) ∧ Fr No w W)
    ⟨(hf1.whole (Whole.new w 23 [.int .i64 d.kind, .int .i64 d.a, .int .i64 d.b, .int .i64 d.i, .int .i64 d.n]) (fun x => x)).alloc _, Whole.new w1 48 [.string ⟨(wordOf d.kind).toArray⟩, .slice A (partsOf d.kind).length c], hrow.no ((Fr.refl _ _).alloc _), (((Fr.refl No w).alloc _).trans hf1).alloc _⟩ ?_
  have hn : w.heap.size < w1.heap.size := by have h1 := hf1.size; simp at h1; omega
  rintro W ⟨hS, hT, hR, hF⟩
  generalize w1.heap.size = n1 at *
  clear q1 q2 q3 hf1 hrow
  have hRb0 : ∀ b o, A = some ⟨b, o, none⟩ → 0 < (partsOf d.kind).length → b < W.heap.size := fun b o hA hp => by
    obtain ⟨b', o', hA', hb, _⟩ := hR.2.2 hp
    rw [hA] at hA'; injection hA' with hA'; injection hA' with h1 _ _; omega
  have e0 := hS.cell
  have ea := fun (o : Obj) => (hS.alloc o).cell
  go_cut [4, 5] (fun x4 x5 V => ∃ bx bo : Nat, x4 = .pointer (some ⟨bx, 0, none⟩) ∧ x5 = .pointer (some ⟨bo, 0, none⟩) ∧ bx ≠ bo ∧ n1 < bo ∧ w.heap.size < bo ∧ w.heap.size < bx ∧ (∀ b o, A = some ⟨b, o, none⟩ → 0 < (partsOf d.kind).length → b < bo) ∧
    Whole V bx 57 [.int .i64 d.kind, .int .i64 d.a, .int .i64 d.b, .int .i64 d.i, .int .i64 d.n] ∧ Whole V bo 57 [.int .i64 d.kind, .int .i64 0, .int .i64 0, .int .i64 0, .int .i64 0] ∧ Whole V w.heap.size 23 [.int .i64 d.kind, .int .i64 d.a, .int .i64 d.b, .int .i64 d.i, .int .i64 d.n] ∧ Whole V n1 48 [.string ⟨(wordOf d.kind).toArray⟩, .slice A (partsOf d.kind).length c] ∧ Row V 3 A (partsOf d.kind).length c (partRow (partsOf d.kind)) ∧ Fr No w V)
  case first =>
    have hz := hT.lt
    go_region
    · go_wp2
      go_meet
      case rel => exact ⟨_, _, rfl, rfl, by omega, by omega, by omega, by omega, fun b o h1 h2 => by have := hRb0 b o h1 h2; omega, (Whole.new W 57 [.int .i64 d.kind, .int .i64 d.a, .int .i64 d.b, .int .i64 d.i, .int .i64 d.n]).alloc _, Whole.new1 W 57 [.int .i64 d.kind, .int .i64 0, .int .i64 0, .int .i64 0, .int .i64 0] _, (hS.alloc _).alloc _, (hT.alloc _).alloc _, hR.no (((Fr.refl _ _).alloc _).alloc _).drew, ((hF.alloc _).alloc _).drew⟩
    · go_wp2
      go_meet
      case rel => exact ⟨_, _, rfl, rfl, by omega, by omega, by omega, by omega, fun b o h1 h2 => by have := hRb0 b o h1 h2; omega, Whole.new1 W 57 [.int .i64 d.kind, .int .i64 d.a, .int .i64 d.b, .int .i64 d.i, .int .i64 d.n] _, (Whole.new W 57 [.int .i64 d.kind, .int .i64 0, .int .i64 0, .int .i64 0, .int .i64 0]).alloc _, (hS.alloc _).alloc _, (hT.alloc _).alloc _, hR.no (((Fr.refl _ _).alloc _).alloc _).drew, ((hF.alloc _).alloc _).drew⟩
  case rest =>
    obtain ⟨bx, bo, rfl, rfl, hne, hge1, hge2, hgx, hRb1, hX0, hO0, hS0, hT0, hR0, hF0⟩ := hcut
    clear hS hT hR hF e0 ea hRb0
    have hpl := partsOf_len d.kind
    have eT := hT0.cell
    go_wp2_with fail
    go_loopw [23] (fun i wr => ∃ k : Nat, k ≤ (partsOf d.kind).length ∧ i = .int .i64 k ∧ Whole wr bx 57 [.int .i64 d.kind, .int .i64 d.a, .int .i64 d.b, .int .i64 d.i, .int .i64 d.n] ∧ Whole wr bo 57 (deedCells (onlyOf d ((partsOf d.kind).take k))) ∧ Fr (Only bo) wc wr ∧ (∀ p ∈ (partsOf d.kind).take k, p.fits d)) (fun i _ => (partsOf d.kind).length - (intOf i).toNat)
    case atStart => exact ⟨0, Nat.zero_le _, rfl, hX0, hO0, Fr.refl _ _, by simp⟩
    case round =>
      obtain ⟨k, hk, rfl, hX, hO, hF, hfit⟩ := hrel
      have hn1 := hT0.lt
      have hbx := hX.lt
      have hbo := hO.lt
      by_cases hlt : k < (partsOf d.kind).length
      · obtain ⟨p, hp⟩ : ∃ p, (partsOf d.kind)[k]? = some p := ⟨_, List.getElem?_eq_getElem hlt⟩
        have hpk := partsOf_k d.kind p (List.mem_of_getElem? hp)
        obtain ⟨b, o, rfl, hb, -⟩ := hR0.2.2 (by omega)
        have hbl : b ≠ bo := by have := hRb1 b o rfl (by omega); omega
        have hcell := part_cells (hR0.fr hF (fun b' o' hA => by injection hA with hA; injection hA with h1 _ _; subst h1; exact hbl)) hp
        obtain ⟨c0, c1, c2⟩ := hcell
        have hall : rightP d = false ∨ p.fits d := by
          by_cases hf : p.fits d
          · exact .inr hf
          · exact .inl (rightP_not d p (List.mem_of_getElem? hp) hf)
        have htake : (partsOf d.kind).take (k + 1) = (partsOf d.kind).take k ++ [p] := by rw [List.take_add_one, hp]; rfl
        have honly := onlyOf_snoc d ((partsOf d.kind).take k) p
        rw [← htake] at honly
        have hfit' : p.fits d → ∀ q ∈ (partsOf d.kind).take (k + 1), q.fits d := fun h q hq => by
          rw [htake, List.mem_append] at hq
          rcases hq with hq | hq
          · exact hfit q hq
          · rw [List.mem_singleton] at hq; subst hq; exact h
        have Htake := Lib.hid honly
        have Hfit := Lib.hid hfit'
        have Hall := Lib.hid hall
        generalize hO0 : onlyOf d ((partsOf d.kind).take k) = od at *
        clear htake hall hfit hfit' hp honly hO0 hT0 hX0 hS0 hR0
        obtain ⟨pk, lo, hi⟩ := p
        dsimp only at hpk c0 c1 c2
        rcases hpk with rfl | rfl | rfl | rfl
        all_goals
          simp only [fnOf] at c0
          simp only [PPart.fits, PDeed.get] at Hall Hfit Htake
          have i1 : (0 : Int) ≤ (k : Int) := by omega
          have i2 : (k : Int) < ((partsOf d.kind).length : Int) := by omega
          have hfr0 : ∀ w1, Fr (Only wr.heap.size) (wr.alloc (.cells #[.nilFunc, .int .i64 0, .int .i64 0] 52)) w1 → Fr No wr w1 := fun w1 hf1 => ((Fr.refl No wr).alloc _).next hf1 (fun i hi hg => by simp only [Only] at hg; omega)
          have Hfr0 := Lib.hid hfr0
          clear hfr0
          go_wp2_with (first
            | (refine wpList_store_whole rfl 52 (.tmp 7) (.tmp 26) rfl wr.heap.size rfl _ rfl 52 [.nilFunc, .int .i64 0, .int .i64 0] (Whole.new wr _ _) (by kernel_rfl) rfl rfl ?_; intro w1 hW1 hf1; have hf01 := Hfr0.out _ hf1; have hX1 := hf01.whole hX (fun x => x); have hO1 := hf01.whole hO (fun x => x); have eW := hW1.cell; have eX := hX1.cell; have eO : ∀ i, w1.cell? ⟨bo, i, none⟩ = ([.int .i64 od.kind, .int .i64 od.a, .int .i64 od.b, .int .i64 od.i, .int .i64 od.n] : List Value)[i]? := hO1.cell; have fO := hO1.frozen)
            | (go_at_call 34; refine (deed_a _ _).mono ?_; rintro _ _ ⟨rfl, rfl⟩)
            | (go_at_call 35; refine (deed_b _ _).mono ?_; rintro _ _ ⟨rfl, rfl⟩)
            | (go_at_call 36; refine (deed_i _ _).mono ?_; rintro _ _ ⟨rfl, rfl⟩)
            | (go_at_call 37; refine (deed_n _ _).mono ?_; rintro _ _ ⟨rfl, rfl⟩))
          all_goals first
            | (go_ret
               have hq := Hall.out
               exact ⟨ret_bool (by rcases hq with hq | hq; exact hq.symm; exfalso; omega), (hF0.next hF (fun i hi hg => by simp only [Only] at hg; omega)).trans hf01⟩)
            | (have hq : Hid (wr.heap.size ≤ w1.heap.size) := Lib.hid hf01.size
               refine ⟨⟨k + 1, by omega, by go_num, hX1.far (by exact hne) _, ?_, ((hF.trans (hf01.mono (fun _ _ h => h.elim)))).set _ _ (Or.inl (only_self _)) _, Hfit.out (by omega)⟩, by simp [intOf]; omega⟩
               rw [Htake.out]
               first
                 | exact hO1.set 1 _
                 | exact hO1.set 2 _
                 | exact hO1.set 3 _
                 | exact hO1.set 4 _)
      · have hkl : k = (partsOf d.kind).length := by omega
        subst hkl
        rw [List.take_length] at hO hfit
        obtain ⟨oD, hoD⟩ : ∃ o, o = onlyOf d (partsOf d.kind) := ⟨_, rfl⟩
        rw [← hoD] at hO
        have eX := hX.cell
        have eO : ∀ i, wr.cell? ⟨bo, i, none⟩ = ([.int .i64 oD.kind, .int .i64 oD.a, .int .i64 oD.b, .int .i64 oD.i, .int .i64 oD.n] : List Value)[i]? := hO.cell
        have HoD := Lib.hid hoD
        clear hoD
        have eS := (hF.whole hS0 (by simp only [Only]; omega)).cell
        have eT' := (hF.whole hT0 (by simp only [Only]; omega)).cell
        have Hfit := Lib.hid hfit
        clear hfit hX hO hX0 hO0 hT0 hS0 hR0 eT
        cases hw : wordOf d.kind with
        | nil =>
          rw [hw] at eT'
          have Hw := Lib.hid hw
          clear hw
          go_wp2_with fail
          go_quiet (fail)
          go_wp2
          go_ret
          exact ⟨ret_bool (by symm; unfold rightP; rw [Hw.out]; simp), (hF0.next hF (fun i hi hg => by simp only [Only] at hg; omega)).drewN _⟩
        | cons x xs =>
          rw [hw] at eT'
          have hkd : oD.kind = d.kind := by rw [HoD.out]; exact onlyOf_kind d _
          have Hkd := Lib.hid hkd
          simp only [hkd] at eO
          have Hw := Lib.hid hw
          clear hw hkd
          by_cases ea : oD.a = d.a
          case neg =>
            go_wp2_with fail
            go_quiet (fail)
            go_wp2
            go_ret
            exact ⟨ret_bool (rightP_only d (fun h => ea (by rw [HoD.out, h]))).symm, (hF0.next hF (fun i hi hg => by simp only [Only] at hg; omega)).drewN _⟩
          by_cases eb : oD.b = d.b
          case neg =>
            go_wp2_with fail
            go_quiet (fail)
            go_wp2
            go_ret
            exact ⟨ret_bool (rightP_only d (fun h => eb (by rw [HoD.out, h]))).symm, (hF0.next hF (fun i hi hg => by simp only [Only] at hg; omega)).drewN _⟩
          by_cases ei : oD.i = d.i
          case neg =>
            go_wp2_with fail
            go_quiet (fail)
            go_wp2
            go_ret
            exact ⟨ret_bool (rightP_only d (fun h => ei (by rw [HoD.out, h]))).symm, (hF0.next hF (fun i hi hg => by simp only [Only] at hg; omega)).drewN _⟩
          by_cases en : oD.n = d.n
          case neg =>
            go_wp2_with fail
            go_quiet (fail)
            go_wp2
            go_ret
            exact ⟨ret_bool (rightP_only d (fun h => en (by rw [HoD.out, h]))).symm, (hF0.next hF (fun i hi hg => by simp only [Only] at hg; omega)).drewN _⟩
          go_wp2_with fail
          go_quiet (fail)
          go_wp2
          go_ret
          refine ⟨ret_bool ?_, (hF0.next hF (fun i hi hg => by simp only [Only] at hg; omega)).drewN _⟩
          symm
          unfold rightP
          have hod : oD = d := by
            have h0 := Hkd.out
            cases oD; cases d; simp_all
          rw [Hw.out, ← HoD.out, hod]
          simp only [Bool.and_eq_true, List.all_eq_true, decide_eq_true_eq]
          exact ⟨Hfit.out, by simp, trivial⟩
end Go.Proofs.YtbjknkgefpeohaaDoor
