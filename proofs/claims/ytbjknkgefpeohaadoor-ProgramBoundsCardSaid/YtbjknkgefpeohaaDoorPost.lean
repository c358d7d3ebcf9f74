/- A law's row: it answers true, and below the heap's old size nothing has turned: so each argument reads as it did. Conditions: none; plain lemmas. -/
import Derived.Test.YtbjknkgefpeohaaDoorRows
import Derived.Test.YtbjknkgefpeohaaDoorMem
import Derived.ProofKit
import Derived.Carry
import Derived.OpenShut
namespace Go.Proofs.YtbjknkgefpeohaaDoor
open Go.ChangeShapes Go.WideShapes Go.ChangeAt Go.RowKit

theorem Tryd.own : ownKnob Tryd.prog.godebug = none := by kernel_rfl
theorem Tryd.laidOut : laidOutB Tryd.prog = true := by kernel_rfl

section
variable {H : Type} {enc : TypeId × Value → H} {P : Program}
theorem all_stays (hl : laidOutB P = true) {W W' : World} (hb : Below W.heap.size W W') {sp : Nat → Bool} : ∀ {ts : List TypeId} {vs : List Value} {ds : List (DataW H)} {ps : List MemPlace},
    (∀ t ∈ ts, P.readableRec t = true ∧ t < P.types.size) → DataW.TrodAll enc P W 0 (fun _ => true) true ts vs ds ps → (∀ x ∈ ps, x.block < W.heap.size ∧ sp x.block = true) → DataW.TrodAll enc P W' 0 sp true ts vs ds ps := by
  intro ts
  induction ts with
  | nil =>
    intro vs ds ps _ h _
    obtain ⟨rfl, rfl, rfl⟩ := trodAll_nil h
    rfl
  | cons t ts ih =>
    intro vs ds ps hr h hlt
    obtain ⟨v, vs', d, ds', p, q, rfl, rfl, rfl, h1, h2⟩ := trodAll_cons h
    have ht := hr t (List.mem_cons_self ..)
    refine trodAll_cons_mk ?_ (ih (fun t' h' => hr t' (List.mem_cons_of_mem _ h')) h2 (fun x hx => hlt x (List.mem_append_right _ hx)))
    exact WideElems.Trod_stays hl ht.1 ht.2 h1 (fun x hx => hb.same (hlt x (List.mem_append_left _ hx)).1) (fun x hx => (hlt x (List.mem_append_left _ hx)).2)

theorem law_post {f : Func} {s : ChangeSpec} {W W' : World} {args : Array Value} {ds gs : List (DataW H)} {before : List MemPlace} {tb : TypeId} (hl : laidOutB P = true)
    (hr : (f.params.toList.all fun t => P.readableRec t && decide (t < P.types.size)) = true) (ht : f.resultTypes = #[tb]) (hu : P.underlying tb = some .bool) (hsp : s.fn H (ds ++ gs) = { results := [.lit (.bool true)], args := ds }) (hv : s.vars = [])
    (hW : DataW.Whole enc P f.params.toList s.vars false W args.toList ds gs before) (hb : Below W.heap.size W W') : s.post enc P f false true false false W args (.bool true) W' := by
  have hlt := fun x hx => hW.lt x hx
  have hW' := hW
  obtain ⟨p, q, hA, hV, rfl, -, -⟩ := hW
  rw [hv] at hV
  obtain ⟨rfl, rfl⟩ := trodVars_none hV
  simp only [List.append_nil] at *
  refine ⟨ds, [], p, [], p, [], hW', ?_, ?_, ?_, hb.frame _, fun h => by cases h⟩
  · rw [List.append_nil, hsp, ht]
    exact trodAll_mk1 (shut_bool hu true)
  · rw [List.append_nil, hsp]
    refine all_stays hl hb (fun t h => ?_) hA (fun x hx => ⟨hlt x hx, by simpa using hlt x hx⟩)
    have := List.all_eq_true.1 hr t h
    simp only [Bool.and_eq_true, decide_eq_true_eq] at this
    exact this
  · rw [hv, List.append_nil, hsp]
    rfl
end

section
variable {H : Type} {enc : TypeId × Value → H} {P : Program} {W : World} {base : Nat} {spare : Nat → Bool} {held : Bool}
/-- A list of integers that came in, as a row. -/
theorem row_of_ints {t e : TypeId} {fuel : Nat} {v : Value} {x : DataW H × List MemPlace} (ht : P.underlying t = some (.slice e)) (he : P.underlying e = some (.int .i64)) (hc : P.cellsOf e = 1) (h : DataW.trod enc P W base spare held fuel t [v] = some x) :
    ∃ A n c xs, v = .slice A n c ∧ Row W 1 A n c (intVals xs) ∧ xs.length = n ∧ (∀ x ∈ xs, -9223372036854775808 ≤ x ∧ x ≤ 9223372036854775807) ∧ n ≤ maxLen := by
  rcases open_ints ht he hc h with ⟨hcs, -⟩ | ⟨a, len, cap, zs, hcs, -, hl, hm, hz, -, hcell, hwf⟩
  · injection hcs with hcs
    exact ⟨none, 0, 0, [], hcs, Row.nil _ _ _ _, rfl, fun x hx => (by cases hx), Nat.zero_le _⟩
  · injection hcs with hcs
    have hlz : len ≤ zs.length := by rw [hz]; split <;> omega
    refine ⟨some a, len, cap, zs.take len, hcs, ⟨by simp [intVals]; omega, hl, fun hn => ?_⟩, by simp; omega, fun x hx => bounds_i64 (hwf x (List.mem_of_mem_take hx)), by omega⟩
    obtain ⟨b, o, spot⟩ := a
    have hspot : spot = none := by simpa [Addr.add] using World.cell?_spot (hcell 0 (by omega))
    subst hspot
    refine ⟨b, o, rfl, World.block_lt_of_cell? W ⟨b, o, none⟩ (by simpa [addr_add] using hcell 0 (by omega)), fun j u hu => ?_⟩
    simp only [intVals, List.getElem?_map, Option.map_eq_some_iff] at hu
    obtain ⟨y, hy, rfl⟩ := hu
    obtain ⟨hj, hy'⟩ := List.getElem?_eq_some_iff.1 hy
    have hj2 : j < len ∧ j < zs.length := by simp at hj; omega
    have hc' := hcell j hj2.2
    rw [addr_add] at hc'
    rw [hc']
    rw [← hy', List.getElem_take, List.getD_eq_getElem?_getD, List.getElem?_eq_getElem hj2.2]
    rfl
end
end Go.Proofs.YtbjknkgefpeohaaDoor
