/- Contract of Regs: of raw numbers, registers of a model's objects. Conditions: numbers of 64 bits, lists shorter than 2^40. -/
import Derived.Test.YtbjknkgefpeohaaFit15
namespace Go.Proofs.Ytbjknkgefpeohaa
open Go.RowKit


/-- Registers, of which the first k are picked. -/
def regsAt (r : List Int) (n : Int) (k : Nat) : List Int := (r.take k).map (pickZ · n) ++ r.drop k
theorem regsAt_len (r : List Int) (n : Int) (k : Nat) : (regsAt r n k).length = r.length := by simp [regsAt]; omega
theorem regsAt_get {r : List Int} {n : Int} {k : Nat} {x : Int} (h : r[k]? = some x) : (regsAt r n k)[k]? = some x := by
  have hk := (List.getElem?_eq_some_iff.1 h).1
  unfold regsAt
  rw [List.getElem?_append_right (by simp; omega)]
  simp only [List.length_map, List.length_take, Nat.min_eq_left (Nat.le_of_lt hk), Nat.sub_self, List.getElem?_drop, Nat.add_zero]
  exact h
theorem regsAt_set {r : List Int} {n : Int} {k : Nat} {x : Int} (h : r[k]? = some x) : (regsAt r n k).set k (pickZ x n) = regsAt r n (k + 1) := by
  obtain ⟨hk, rfl⟩ := List.getElem?_eq_some_iff.1 h
  unfold regsAt
  rw [List.set_append_right _ _ (by simp; omega)]
  simp only [List.length_map, List.length_take, Nat.min_eq_left (Nat.le_of_lt hk), Nat.sub_self]
  rw [List.drop_eq_getElem_cons hk, List.set_cons_zero, List.take_add_one, List.getElem?_eq_getElem hk]
  simp only [List.map_append, Option.toList_some, List.map_cons, List.map_nil, List.append_assoc, List.singleton_append]

def RegsInv (A Q : Option Addr) (ln c ql qc : Nat) (r : List Int) (w : World) (i : Value) (wr : World) : Prop := ∃ (k : Nat), k ≤ 6 ∧ i = .int .i64 k ∧ Whole wr w.heap.size 29 [.slice A ln c, .slice Q ql qc] ∧ Whole wr (w.heap.size + 1) 24 (intVals (regsAt r ((ln : Int) + 1) k)) ∧ Whole wr (w.heap.size + 1 + 1) 24 [.int .i64 0, .int .i64 0, .int .i64 0, .int .i64 0, .int .i64 0, .int .i64 0] ∧ Fr No w wr

set_option maxRecDepth 8000 in
set_option maxHeartbeats 2000000 in
theorem regs_18 (A Q : Option Addr) (ln c ql qc : Nat) (r : List Int) (r0 r1 r2 r3 r4 r5 : Int) (he : r = [r0, r1, r2, r3, r4, r5]) (hr : ∀ x ∈ r, I64 x) (hl : ln ≤ Cap) (w : World) :
    Calls Try.prog 10 #[.agg #[.slice A ln c, .slice Q ql qc], .agg #[.int .i64 r0, .int .i64 r1, .int .i64 r2, .int .i64 r3, .int .i64 r4, .int .i64 r5]] w
      fun e w' => e = .returned (.agg (intVals (r.map (pickZ · (ln + 1)))).toArray) ∧ Fr No w w' := by
  have hl' := cap_lt hl
  have hln : (ln : Int) + 1 ≤ 9223372036854775807 := by omega
  have hl6 : r.length = 6 := by rw [he]; rfl
  have hpk : ∀ x, I64 x → ∀ W, Calls Try.prog 14 #[.int .i64 x, .int .i64 ((ln : Int) + 1)] W fun e w' => e = .returned (.int .i64 (pickZ x ((ln : Int) + 1))) ∧ w' = W := fun x hx W => pick_18 x ((ln : Int) + 1) hx (by omega) hln W
  have Hpk := Lib.hid hpk
  have hwrap : IntKind.i64.wrap ((ln : Int) + 1) = (ln : Int) + 1 := by rw [IntKind.wrap_i64]; omega
  clear hln
  have h0 : Whole ((((w.alloc (.cells ([.slice A ln c, .slice Q ql qc]).toArray 29)).alloc (.cells ([.int .i64 r0, .int .i64 r1, .int .i64 r2, .int .i64 r3, .int .i64 r4, .int .i64 r5]).toArray 24))).alloc (.cells #[.int .i64 0, .int .i64 0, .int .i64 0, .int .i64 0, .int .i64 0, .int .i64 0] 24)) (w.heap.size + 1) 24 (intVals (regsAt r ((ln : Int) + 1) 0)) := by
    have : intVals (regsAt r ((ln : Int) + 1) 0) = [.int .i64 r0, .int .i64 r1, .int .i64 r2, .int .i64 r3, .int .i64 r4, .int .i64 r5] := by rw [he]; rfl
    rw [this]
    exact (Whole.new1 w 24 [.int .i64 r0, .int .i64 r1, .int .i64 r2, .int .i64 r3, .int .i64 r4, .int .i64 r5] _).alloc _
  have H0 := Lib.hid h0
  clear hpk hl' h0 hl
  go_enter Try.func10, Try.ntmps10
  go_wp2_with fail
  obtain ⟨m6, hm6⟩ : ∃ m : Nat, m = 6 := ⟨_, rfl⟩
  have Hm6 := Lib.hid hm6
  clear hm6
  go_loopw [5] (fun i wr => RegsInv A Q ln c ql qc r w i wr) (fun i _ => m6 - (intOf i).toNat)
  case atStart => exact ⟨0, by omega, rfl, ((Whole.new _ _ _).alloc _).alloc _, H0.out, Whole.new2 _ _ _ _ _, (((Fr.refl _ _).alloc _).alloc _).alloc _⟩
  case round =>
    obtain ⟨k, hk, rfl, hM, hR, hZ, hF⟩ := hrel
    by_cases hlt : k < 6
    · obtain ⟨x, hx⟩ : ∃ x, r[k]? = some x := ⟨_, List.getElem?_eq_getElem (by omega)⟩
      have hxi := hr x (List.mem_of_getElem? hx)
      have cm : wr.cell? ⟨w.heap.size, 0, none⟩ = some (.slice A ln c) := hM.cell 0
      have ck : wr.cell? ⟨w.heap.size + 1, k, none⟩ = some (.int .i64 x) := (hR.cell k).trans (by rw [intVals_get, regsAt_get hx]; rfl)
      have zk := hR.frozen k
      have hp := Lib.hid (fun W => Hpk.out x hxi W)
      have hnext : Whole (wr.setCell ⟨w.heap.size + 1, k, none⟩ (.int .i64 (pickZ x ((ln : Int) + 1)))) (w.heap.size + 1) 24 (intVals (regsAt r ((ln : Int) + 1) (k + 1))) := by
        have := hR.set k (.int .i64 (pickZ x ((ln : Int) + 1)))
        have e : (intVals (regsAt r ((ln : Int) + 1) k)).set k (.int .i64 (pickZ x ((ln : Int) + 1))) = intVals (regsAt r ((ln : Int) + 1) (k + 1)) := by rw [← regsAt_set hx]; simp [intVals, List.map_set]
        rw [e] at this
        exact this
      have HN := Lib.hid hnext
      have HM := Lib.hid hM
      have HZ := Lib.hid hZ
      clear hnext hR hM hZ hr he hx hxi hl6
      go_wp2_with fail
      go_region_with (go_at_call 14; with_reducible refine (hp.out _).mono ?_; rintro e w1 ⟨rfl, rfl⟩)
      all_goals go_wp2
      all_goals
        have hm := Hm6.out
        exact ⟨⟨k + 1, by omega, by go_num, (HM.out.far (by simp) _).drew, HN.out.drew, (HZ.out.far (by simp) _).drew, (hF.set _ _ (Or.inr (by omega)) _).drew⟩, by simp [intOf]; omega⟩
    · have hk6 : k = 6 := by omega
      subst hk6
      have e6 : intVals (regsAt r ((ln : Int) + 1) 6) = [.int .i64 (pickZ r0 (ln + 1)), .int .i64 (pickZ r1 (ln + 1)), .int .i64 (pickZ r2 (ln + 1)), .int .i64 (pickZ r3 (ln + 1)), .int .i64 (pickZ r4 (ln + 1)), .int .i64 (pickZ r5 (ln + 1))] := by rw [he]; rfl
      have e7 : intVals (r.map (pickZ · (ln + 1))) = [.int .i64 (pickZ r0 (ln + 1)), .int .i64 (pickZ r1 (ln + 1)), .int .i64 (pickZ r2 (ln + 1)), .int .i64 (pickZ r3 (ln + 1)), .int .i64 (pickZ r4 (ln + 1)), .int .i64 (pickZ r5 (ln + 1))] := by rw [he]; rfl
      rw [e6] at hR
      have HE := Lib.hid e7
      have er := hR.cell
      have ez := hZ.cell
      have fz := hZ.frozen
      have hn12 : w.heap.size + 1 ≠ w.heap.size + 1 + 1 := by omega
      have HZ := Lib.hid hZ
      clear hR hZ hM hr he hl6 e6 e7 Hpk hk hlt
      generalize pickZ r0 (ln + 1) = p0 at *
      generalize pickZ r1 (ln + 1) = p1 at *
      generalize pickZ r2 (ln + 1) = p2 at *
      generalize pickZ r3 (ln + 1) = p3 at *
      generalize pickZ r4 (ln + 1) = p4 at *
      generalize pickZ r5 (ln + 1) = p5 at *
      go_wp2_with fail
      refine bodyPost_ret (results_whole Try.results10 rfl ((((((HZ.out.set 0 _).set 1 _).set 2 _).set 3 _).set 4 _).set 5 _) Try.underlying24 rfl (by kernel_rfl)) rfl ?_
      refine ⟨by rw [HE.out]; rfl, ?_⟩
      exact ((((((hF.set _ _ (Or.inr (by omega)) _).set _ _ (Or.inr (by omega)) _).set _ _ (Or.inr (by omega)) _).set _ _ (Or.inr (by omega)) _).set _ _ (Or.inr (by omega)) _).set _ _ (Or.inr (by omega)) _)
end Go.Proofs.Ytbjknkgefpeohaa
