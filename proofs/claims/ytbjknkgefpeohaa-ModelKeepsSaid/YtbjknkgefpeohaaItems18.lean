/- What came in as raw items, opened to a row that can be read. Conditions: none; plain lemmas. -/
import Derived.Test.YtbjknkgefpeohaaOpen18
namespace Go.Proofs.Ytbjknkgefpeohaa
open Go.ChangeShapes Go.WideShapes Go.ChangeAt Go.RowKit Go.Deep

section
variable {H : Type} {enc : TypeId × Value → H} {W : World} {base : Nat} {spare : Nat → Bool} {held : Bool}
theorem open_item {fuel : Nat} {cs : List Value} {x : DataW H × List MemPlace} (h : DataW.trod enc Try.prog W base spare held fuel 43 cs = some x) : ∃ q : Int × Int, cs = [.int .i64 q.1, .int .i64 q.2] ∧ I64 q.1 := by
  obtain ⟨xs, n, rfl, -, hlen, hxl, hg⟩ := DataW.trod_struct Try.underlying43 h
  have h2 : cs.length = 2 := hlen.trans (by kernel_rfl)
  have hx2 : xs.length = 2 := hxl
  match cs, h2, xs, hx2 with
  | [c0, c1], _, [y0, y1], _ =>
    have e1 : Try.prog.cellsOf 3 = 1 := by kernel_rfl
    have g0 := hg 0 _ rfl
    have g1 := hg 1 _ rfl
    simp [e1] at g0 g1
    obtain ⟨a, ha, -, wa⟩ := DataW.trod_int Try.underlying3 g0
    obtain ⟨b, hb, -, wb⟩ := DataW.trod_int Try.underlying3 g1
    simp at ha hb
    subst ha hb
    exact ⟨(a, b), rfl, bounds_i64 wa⟩
theorem row_of_items {fuel : Nat} {v : Value} {x : DataW H × List MemPlace} (h : DataW.trod enc Try.prog W base spare held fuel 23 [v] = some x) :
    ∃ A n c qs, v = .slice A n c ∧ Row W 2 A n c (itemVals qs) ∧ qs.length = n ∧ (∀ q ∈ qs, I64 q.1) ∧ n ≤ maxLen := by
  rcases open_slice Try.underlying23 h with ⟨hcs, -⟩ | ⟨a, len, cap, m, n, D, Pl, hcs, -, hl, hm, hmm, -, hi⟩
  · injection hcs with hcs
    exact ⟨none, 0, 0, [], hcs, Row.nil _ _ _ _, rfl, fun r hr => (by cases hr), Nat.zero_le _⟩
  · injection hcs with hcs
    have e2 : Try.prog.cellsOf 43 = 2 := by kernel_rfl
    rw [e2] at hi
    have hlm : len ≤ m := by rw [hmm]; split <;> omega
    have each : ∀ i, ∃ q : Int × Int, i < len → W.cells? base (a.add (i * 2)) 2 = some [.int .i64 q.1, .int .i64 q.2] ∧ I64 q.1 := by
      intro i
      by_cases hil : i < len
      · obtain ⟨cs', hc, ht⟩ := hi i (by omega)
        obtain ⟨q, rfl, hq⟩ := open_item ht
        exact ⟨q, fun _ => ⟨hc, hq⟩⟩
      · exact ⟨(0, 0), fun h => absurd h hil⟩
    obtain ⟨F, hF⟩ := Classical.axiomOfChoice each
    refine ⟨some a, len, cap, (List.range len).map F, hcs, ⟨by simp [itemVals_length], hl, fun hn => ?_⟩, by simp, fun r hr => ?_, by omega⟩
    · have hcell : ∀ i, i < len → W.cell? (a.add (i * 2)) = some (.int .i64 (F i).1) ∧ W.cell? ((a.add (i * 2)).add 1) = some (.int .i64 (F i).2) := by
        intro i hil
        obtain ⟨-, hcl, hat⟩ := World.cells?_some (hF i hil).1
        have h0 := hat 0 (by decide)
        have h1 := hat 1 (by decide)
        have e0 : (a.add (i * 2)).add 0 = a.add (i * 2) := rfl
        rw [e0] at h0
        exact ⟨h0, h1⟩
      obtain ⟨b, o, spot⟩ := a
      have hspot : spot = none := by
        obtain ⟨hu, -⟩ := hcell 0 hn
        simpa [Addr.add] using World.cell?_spot hu
      subst hspot
      refine ⟨b, o, rfl, ?_, fun j u hu => ?_⟩
      · obtain ⟨hu, -⟩ := hcell 0 hn
        exact World.block_lt_of_cell? W ⟨b, o, none⟩ (by simpa [Addr.add] using hu)
      · have hjl : j < ((List.range len).map F).length * 2 := by rw [← itemVals_length]; exact (List.getElem?_eq_some_iff.1 hu).1
        simp only [List.length_map, List.length_range] at hjl
        have hq : j / 2 < len := by omega
        obtain ⟨h1, h2⟩ := hcell (j / 2) hq
        obtain ⟨g1, g2⟩ := itemVals_get ((List.range len).map F) (j / 2) (F (j / 2)) (by simp [hq])
        rw [addr_add] at h1 h2
        rw [addr_add] at h2
        rcases Nat.mod_two_eq_zero_or_one j with hj | hj
        · have e : j / 2 * 2 = j := by omega
          rw [e] at h1 g1
          rw [hu] at g1
          rw [h1, ← g1]
        · have e : j / 2 * 2 + 1 = j := by omega
          rw [e] at g2
          rw [Nat.add_assoc, e] at h2
          rw [hu] at g2
          rw [h2, ← g2]
    · obtain ⟨i, hi', rfl⟩ := List.mem_map.1 hr
      exact (hF i (by simpa using hi')).2
end
end Go.Proofs.Ytbjknkgefpeohaa
