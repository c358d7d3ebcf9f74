/- Contract of Same, second part: lists of objects, and models. Conditions: lists shorter than 2^40. -/
import Derived.Test.YtbjknkgefpeohaaSame
namespace Go.Proofs.Ytbjknkgefpeohaa
open Go.RowKit
attribute [local go_sem ↓] Go.wp_at_zero Go.wp_at_succ

theorem RO.ok.one {w : World} {r : RO} (h : r.ok w) : ([.int .i64 r.o.serial, .int .i64 r.o.np, .int .i64 r.o.nd, .bool r.o.weak, .bool r.o.fin, r.P, r.N, .bool r.o.freed] : List Value).all Value.oneCell' = true := by
  obtain ⟨_, _, _, _, h1, h2⟩ := h.form
  rw [h1, h2]; rfl

set_option maxHeartbeats 1000000 in
theorem equal_func (ros ros' : List RO) (A A' : Option Addr) (c c' : Nat) (w : World) (hl : ros.length ≤ Cap) (hl' : ros'.length ≤ Cap) (h : Row w 8 A ros.length c (rowOf ros)) (h' : Row w 8 A' ros'.length c' (rowOf ros'))
    (hok : ∀ r ∈ ros, r.ok w) (hok' : ∀ r ∈ ros', r.ok w) :
    Calls Try.prog 23 #[.slice A ros.length c, .slice A' ros'.length c', .func (.func 24) #[] #[]] w
      fun e w' => e = .returned (.bool (decide (ros.map RO.o = ros'.map RO.o))) ∧ Fr No w w' := by
  have hlen : ros.length ≤ 9223372036854775807 := by have := cap_lt hl; omega
  have hlen' : ros'.length ≤ 9223372036854775807 := by have := cap_lt hl'; omega
  clear hl hl'
  by_cases he : ros.length = ros'.length
  · have hb : ((ros.length : Int) != (ros'.length : Int)) = false := by simp [he]
    have He := Lib.hid he
    clear he
    go_enter Try.func23, Try.ntmps23
    go_wp2
    go_loopw [7, 17] (fun _ i wr => ∃ k : Nat, k ≤ ros.length ∧ i = .int .i64 k ∧ Fr No w wr ∧ ∀ j, j < k → (ros.map RO.o)[j]? = (ros'.map RO.o)[j]?) (fun _ i _ => ros.length - (intOf i).toNat)
    case atStart => exact ⟨0, Nat.zero_le _, rfl, Fr.refl _ _, fun j hj => absurd hj (by omega)⟩
    case round =>
      obtain ⟨k, hk, rfl, hfr, hall⟩ := hrel
      have Hall := Lib.hid hall
      clear hall
      by_cases hlt : k < ros.length
      · have hlt' : k < ros'.length := by have := He.out; omega
        obtain ⟨r, hr⟩ : ∃ r, ros[k]? = some r := ⟨_, List.getElem?_eq_getElem hlt⟩
        obtain ⟨r', hr'⟩ : ∃ r, ros'[k]? = some r := ⟨_, List.getElem?_eq_getElem hlt'⟩
        obtain ⟨b, o, rfl, hbl, -⟩ := h.2.2 (by omega)
        obtain ⟨b', o', rfl, hbl', -⟩ := h'.2.2 (by omega)
        have hrok := (hok r (List.mem_of_getElem? hr)).no hfr
        have hrok' := (hok' r' (List.mem_of_getElem? hr')).no hfr
        have hcs := obj_cells (h.no hfr) hr
        have hcs' := obj_cells (h'.no hfr) hr'
        have c0 : wr.cell? ⟨b, o + k * 8, none⟩ = some (.int .i64 r.o.serial) := hcs 0 (by decide); have c1 : wr.cell? ⟨b, o + k * 8 + 1, none⟩ = some (.int .i64 r.o.np) := hcs 1 (by decide); have c2 : wr.cell? ⟨b, o + k * 8 + 2, none⟩ = some (.int .i64 r.o.nd) := hcs 2 (by decide); have c3 : wr.cell? ⟨b, o + k * 8 + 3, none⟩ = some (.bool r.o.weak) := hcs 3 (by decide); have c4 : wr.cell? ⟨b, o + k * 8 + 4, none⟩ = some (.bool r.o.fin) := hcs 4 (by decide); have c5 : wr.cell? ⟨b, o + k * 8 + 5, none⟩ = some r.P := hcs 5 (by decide); have c6 : wr.cell? ⟨b, o + k * 8 + 6, none⟩ = some r.N := hcs 6 (by decide); have c7 : wr.cell? ⟨b, o + k * 8 + 7, none⟩ = some (.bool r.o.freed) := hcs 7 (by decide)
        have d0 : wr.cell? ⟨b', o' + k * 8, none⟩ = some (.int .i64 r'.o.serial) := hcs' 0 (by decide); have d1 : wr.cell? ⟨b', o' + k * 8 + 1, none⟩ = some (.int .i64 r'.o.np) := hcs' 1 (by decide); have d2 : wr.cell? ⟨b', o' + k * 8 + 2, none⟩ = some (.int .i64 r'.o.nd) := hcs' 2 (by decide); have d3 : wr.cell? ⟨b', o' + k * 8 + 3, none⟩ = some (.bool r'.o.weak) := hcs' 3 (by decide); have d4 : wr.cell? ⟨b', o' + k * 8 + 4, none⟩ = some (.bool r'.o.fin) := hcs' 4 (by decide); have d5 : wr.cell? ⟨b', o' + k * 8 + 5, none⟩ = some r'.P := hcs' 5 (by decide); have d6 : wr.cell? ⟨b', o' + k * 8 + 6, none⟩ = some r'.N := hcs' 6 (by decide); have d7 : wr.cell? ⟨b', o' + k * 8 + 7, none⟩ = some (.bool r'.o.freed) := hcs' 7 (by decide)
        have i1 : (0 : Int) ≤ (k : Int) := by omega
        have i2 : (k : Int) < (ros.length : Int) := by omega
        have i3 : (k : Int) < (ros'.length : Int) := by omega
        have hone := hrok.one
        have hone' := hrok'.one
        have Hx : Hid ((ros.map RO.o)[k]? = some r.o) := Lib.hid (by simp [hr])
        have Hy : Hid ((ros'.map RO.o)[k]? = some r'.o) := Lib.hid (by simp [hr'])
        clear h h' hr hr' hcs hcs' hok hok'
        have hb64 : b < wr.heap.size := by have := hfr.size; omega
        have hb64' : b' < wr.heap.size := by have := hfr.size; omega
        have Hd : Hid (r.o = r'.o ∨ r.o ≠ r'.o) := Lib.hid (Classical.em _)
        have hsame : ∀ W, Fr No wr W → Calls Try.prog 24 #[.agg [.int .i64 r.o.serial, .int .i64 r.o.np, .int .i64 r.o.nd, .bool r.o.weak, .bool r.o.fin, r.P, r.N, .bool r.o.freed].toArray, .agg [.int .i64 r'.o.serial, .int .i64 r'.o.np, .int .i64 r'.o.nd, .bool r'.o.weak, .bool r'.o.fin, r'.P, r'.N, .bool r'.o.freed].toArray] W fun e w' => e = .returned (.bool (decide (r.o = r'.o))) ∧ Fr No W w' := fun W hW => same_1 r r' W (hrok.no hW) (hrok'.no hW)
        rcases Hd.out with heq | hne
        · have hd : decide (r.o = r'.o) = true := by simp [heq]
          rw [hd] at hsame
          have Hs := Lib.hid hsame
          have Heq := Lib.hid heq
          clear hsame heq hd Hd hrok hrok'
          go_wp2_with (first
            | (refine wpList_store_whole rfl 41 (.tmp 8) (.tmp 21) rfl wr.heap.size rfl [.int .i64 r.o.serial, .int .i64 r.o.np, .int .i64 r.o.nd, .bool r.o.weak, .bool r.o.fin, r.P, r.N, .bool r.o.freed] rfl 41 [.int .i64 0, .int .i64 0, .int .i64 0, .bool false, .bool false, .slice none 0 0, .slice none 0 0, .bool false] (Whole.new wr _ _) (by kernel_rfl) rfl hone ?_; intro w1 hW1 hf1; have hf01 : Fr No wr w1 := ((Fr.refl No wr).alloc _).next hf1 (fun i hi hg => by simp only [Only] at hg; omega); obtain ⟨q1, q2, q3⟩ := hf01.cells)
            | (refine wpList_store_whole rfl 41 (.tmp 9) (.tmp 25) rfl w1.heap.size rfl [.int .i64 r'.o.serial, .int .i64 r'.o.np, .int .i64 r'.o.nd, .bool r'.o.weak, .bool r'.o.fin, r'.P, r'.N, .bool r'.o.freed] rfl 41 [.int .i64 0, .int .i64 0, .int .i64 0, .bool false, .bool false, .slice none 0 0, .slice none 0 0, .bool false] (Whole.new w1 _ _) (by kernel_rfl) rfl hone' ?_; intro w2 hW2 hf2; have hf12 : Fr No w1 w2 := ((Fr.refl No w1).alloc _).next hf2 (fun i hi hg => by simp only [Only] at hg; omega); have e2 := hW2.cell; have e1 := (hf12.whole hW1 (fun x => x)).cell)
            | (go_at_call 24; refine (Hs.out _ (hf01.trans hf12)).mono ?_; rintro e w3 ⟨rfl, hf3⟩))
          go_roundw
          case rel => exact ⟨k + 1, by omega, by go_num, ((hfr.trans hf01).trans hf12).trans hf3, fun j hj => by
            rcases Nat.lt_succ_iff_lt_or_eq.1 hj with hj | hj
            · exact Hall.out j hj
            · subst hj; rw [Hx.out, Hy.out, Heq.out]⟩
          case measure => simp [intOf]; omega
        · have hd : decide (r.o = r'.o) = false := by simp [hne]
          rw [hd] at hsame
          have Hs := Lib.hid hsame
          have Hne : Hid (ros.map RO.o ≠ ros'.map RO.o) := Lib.hid (fun hh => by have := Hx.out; rw [hh, Hy.out] at this; injection this with this; exact hne this.symm)
          clear hsame hne hd Hd hrok hrok'
          go_wp2_with (first
            | (refine wpList_store_whole rfl 41 (.tmp 8) (.tmp 21) rfl wr.heap.size rfl [.int .i64 r.o.serial, .int .i64 r.o.np, .int .i64 r.o.nd, .bool r.o.weak, .bool r.o.fin, r.P, r.N, .bool r.o.freed] rfl 41 [.int .i64 0, .int .i64 0, .int .i64 0, .bool false, .bool false, .slice none 0 0, .slice none 0 0, .bool false] (Whole.new wr _ _) (by kernel_rfl) rfl hone ?_; intro w1 hW1 hf1; have hf01 : Fr No wr w1 := ((Fr.refl No wr).alloc _).next hf1 (fun i hi hg => by simp only [Only] at hg; omega); obtain ⟨q1, q2, q3⟩ := hf01.cells)
            | (refine wpList_store_whole rfl 41 (.tmp 9) (.tmp 25) rfl w1.heap.size rfl [.int .i64 r'.o.serial, .int .i64 r'.o.np, .int .i64 r'.o.nd, .bool r'.o.weak, .bool r'.o.fin, r'.P, r'.N, .bool r'.o.freed] rfl 41 [.int .i64 0, .int .i64 0, .int .i64 0, .bool false, .bool false, .slice none 0 0, .slice none 0 0, .bool false] (Whole.new w1 _ _) (by kernel_rfl) rfl hone' ?_; intro w2 hW2 hf2; have hf12 : Fr No w1 w2 := ((Fr.refl No w1).alloc _).next hf2 (fun i hi hg => by simp only [Only] at hg; omega); have e2 := hW2.cell; have e1 := (hf12.whole hW1 (fun x => x)).cell)
            | (go_at_call 24; refine (Hs.out _ (hf01.trans hf12)).mono ?_; rintro e w3 ⟨rfl, hf3⟩))
          go_ret
          exact ⟨ret_bool (decide_eq_false Hne.out).symm, ((hfr.trans hf01).trans hf12).trans hf3⟩
      · go_wp2
        go_ret
        exact ⟨ret_bool (by
          symm; rw [decide_eq_true_iff]
          apply List.ext_getElem?
          intro j
          by_cases hj : j < ros.length
          · exact Hall.out j (by omega)
          · rw [List.getElem?_eq_none (by simp; omega), List.getElem?_eq_none (by have := He.out; simp; omega)]), hfr⟩
  · have hb : ((ros.length : Int) != (ros'.length : Int)) = true := by simp; omega
    have He := Lib.hid he
    clear he
    go_enter Try.func23, Try.ntmps23
    go_wp2
    go_ret
    exact ⟨ret_bool (decide_eq_false (fun hh => He.out (by simpa using congrArg List.length hh))).symm, Fr.refl _ _⟩

set_option maxHeartbeats 400000 in
theorem same_calls (m m' : RM) (w : World) (h : m.ok w) (h' : m'.ok w) :
    Calls Try.prog 13 #[m.val, m'.val] w fun e w' => e = .returned (.bool (decide (m.pure = m'.pure))) ∧ Fr No w w' := by
  obtain ⟨A, c, Q, qc, ros, qs⟩ := m
  obtain ⟨A', c', Q', qc', ros', qs'⟩ := m'
  obtain ⟨h1, h2, h3, h4, h5⟩ := h
  obtain ⟨g1, g2, g3, g4, g5⟩ := h'
  dsimp only at h1 h2 h3 h4 h5 g1 g2 g3 g4 g5
  simp only [RM.val]
  have hk1 : ∀ W, Fr No w W → Calls Try.prog 22 #[.slice Q qs.length qc, .slice Q' qs'.length qc'] W fun e w' => e = .returned (.bool (decide (qs = qs'))) ∧ Fr No W w' := fun W hW => equal_item _ _ _ _ _ _ _ h5 g5 (h3.no hW) (g3.no hW)
  have hk2 : ∀ W, Fr No w W → Calls Try.prog 23 #[.slice A ros.length c, .slice A' ros'.length c', .func (.func 24) #[] #[]] W
      fun e w' => e = .returned (.bool (decide (ros.map RO.o = ros'.map RO.o))) ∧ Fr No W w' := fun W hW => equal_func _ _ _ _ _ _ _ h4 g4 (h1.no hW) (g1.no hW) (fun r hr => (h2 r hr).no hW) (fun r hr => (g2 r hr).no hW)
  have Hk2 := Lib.hid hk2
  clear hk2 h1 h2 h3 h4 h5 g1 g2 g3 g4 g5
  have hf0 : ∀ (a b : Obj), Fr No w ((w.alloc a).alloc b) := fun a b => ((Fr.refl _ _).alloc _).alloc _
  have Hf0 := Lib.hid hf0
  clear hf0
  have hpure : ∀ b b', (decide (qs = qs') = b) → (decide (ros.map RO.o = ros'.map RO.o) = b') → decide (RM.pure ⟨A, c, Q, qc, ros, qs⟩ = RM.pure ⟨A', c', Q', qc', ros', qs'⟩) = (b && b') := by
    rintro b b' rfl rfl
    simp only [RM.pure, PModel.mk.injEq]
    rw [Bool.eq_iff_iff]; simp [and_comm]
  by_cases hq : qs = qs'
  · have hd : decide (qs = qs') = true := by simp [hq]
    have Hp := Lib.hid (hpure _ _ hd rfl)
    rw [hd] at hk1
    have Hk1 := Lib.hid hk1
    clear hk1 hd hq hpure
    have hW : ∀ w1, Fr No ((w.alloc (.cells #[.slice A ros.length c, .slice Q qs.length qc] 29)).alloc (.cells #[.slice A' ros'.length c', .slice Q' qs'.length qc'] 29)) w1 → w1.cell? ⟨w.heap.size, 0, none⟩ = some (.slice A ros.length c) ∧ w1.cell? ⟨w.heap.size + 1, 0, none⟩ = some (.slice A' ros'.length c') := fun w1 hf =>
      ⟨(hf.whole (((Whole.new w 29 [.slice A ros.length c, .slice Q qs.length qc]).alloc _)) (fun x => x)).cell 0, (hf.whole (Whole.new1 w 29 [.slice A' ros'.length c', .slice Q' qs'.length qc'] _) (fun x => x)).cell 0⟩
    have HW := Lib.hid hW
    clear hW
    go_enter Try.func13, Try.ntmps13
    go_wp2_with (first | (go_at_call 22; with_reducible refine (Hk1.out _ (Hf0.out _ _)).mono ?_; rintro e w1 ⟨rfl, hf1⟩; obtain ⟨g1, g2⟩ := HW.out _ hf1) | (go_at_call 23; with_reducible refine (Hk2.out _ ((Hf0.out _ _).trans hf1)).mono ?_; rintro e w2 ⟨rfl, hf2⟩))
    go_ret
    exact ⟨ret_bool (by rw [Hp.out]; simp), ((Hf0.out _ _).trans hf1).trans hf2⟩
  · have hd : decide (qs = qs') = false := by simp [hq]
    have Hp := Lib.hid (hpure _ _ hd rfl)
    rw [hd] at hk1
    have Hk1 := Lib.hid hk1
    clear hk1 hd hq hpure
    go_enter Try.func13, Try.ntmps13
    go_wp2_with (go_at_call 22; with_reducible refine (Hk1.out _ (Hf0.out _ _)).mono ?_; rintro e w1 ⟨rfl, hf1⟩)
    go_ret
    exact ⟨ret_bool (by rw [Hp.out]; simp), (Hf0.out _ _).trans hf1⟩
end Go.Proofs.Ytbjknkgefpeohaa
