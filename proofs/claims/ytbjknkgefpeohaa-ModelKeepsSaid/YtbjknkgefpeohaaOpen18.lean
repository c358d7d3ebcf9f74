/- What came in as raw objects, opened to rows that can be read. Conditions: none; plain lemmas. -/
import Derived.Test.YtbjknkgefpeohaaFit18
import Derived.Test.YtbjknkgefpeohaaPost
import Derived.Deep.Slices
namespace Go.Proofs.Ytbjknkgefpeohaa
open Go.ChangeShapes Go.WideShapes Go.ChangeAt Go.RowKit Go.Deep

section
variable {H : Type} {enc : TypeId × Value → H} {W : World} {base : Nat} {spare : Nat → Bool} {held : Bool}
theorem open_shape {fuel : Nat} {cs : List Value} {x : DataW H × List MemPlace} (h : DataW.trod enc Try.prog W base spare held fuel 38 cs = some x) :
    ∃ np nd : Int, ∃ wk fi : Bool, cs = [.int .i64 np, .int .i64 nd, .bool wk, .bool fi] := by
  obtain ⟨xs, n, rfl, -, hlen, hxl, hg⟩ := DataW.trod_struct Try.underlying38 h
  have h4 : cs.length = 4 := hlen.trans (by kernel_rfl)
  have hx4 : xs.length = 4 := hxl
  match cs, h4, xs, hx4 with
  | [c0, c1, c2, c3], _, [y0, y1, y2, y3], _ =>
    have e1 : Try.prog.cellsOf 3 = 1 := by kernel_rfl
    have e2 : Try.prog.cellsOf 4 = 1 := by kernel_rfl
    have g0 := hg 0 _ rfl
    have g1 := hg 1 _ rfl
    have g2 := hg 2 _ rfl
    have g3 := hg 3 _ rfl
    simp [e1, e2] at g0 g1 g2 g3
    obtain ⟨a, ha, -⟩ := DataW.trod_int Try.underlying3 g0
    obtain ⟨b, hb, -⟩ := DataW.trod_int Try.underlying3 g1
    obtain ⟨c, hc, -⟩ := DataW.trod_bool Try.underlying4 g2
    obtain ⟨d, hd, -⟩ := DataW.trod_bool Try.underlying4 g3
    simp at ha hb hc hd
    exact ⟨a, b, c, d, by rw [ha, hb, hc, hd]⟩
theorem open_obj {fuel : Nat} {cs : List Value} {x : DataW H × List MemPlace} (h : DataW.trod enc Try.prog W base spare held fuel 41 cs = some x) : ∃ r : RO, cs = r.cells ∧ r.raw W := by
  obtain ⟨xs, n, rfl, -, hlen, hxl, hg⟩ := DataW.trod_struct Try.underlying41 h
  have h8 : cs.length = 8 := hlen.trans (by kernel_rfl)
  have hx5 : xs.length = 5 := hxl
  match cs, h8, xs, hx5 with
  | [c0, c1, c2, c3, c4, c5, c6, c7], _, [y0, y1, y2, y3, y4], _ =>
    have e1 : Try.prog.cellsOf 3 = 1 := by kernel_rfl
    have e2 : Try.prog.cellsOf 4 = 1 := by kernel_rfl
    have e3 : Try.prog.cellsOf 38 = 4 := by kernel_rfl
    have e4 : Try.prog.cellsOf 39 = 1 := by kernel_rfl
    have g0 := hg 0 _ rfl
    have g1 := hg 1 _ rfl
    have g2 := hg 2 _ rfl
    have g3 := hg 3 _ rfl
    have g4 := hg 4 _ rfl
    simp [e1, e2, e3, e4] at g0 g1 g2 g3 g4
    obtain ⟨s, hs, -, ws⟩ := DataW.trod_int Try.underlying3 g0
    obtain ⟨np, nd, wk, fi, hsh⟩ := open_shape g1
    obtain ⟨pA, pn, pc, ps, hP, rP, lP, bP, mP⟩ := row_of_ints Try.underlying39 Try.underlying3 (by kernel_rfl) g2
    obtain ⟨nA, nn, nc, ns, hN, rN, lN, bN, mN⟩ := row_of_ints Try.underlying39 Try.underlying3 (by kernel_rfl) g3
    obtain ⟨f, hf, -⟩ := DataW.trod_bool Try.underlying4 g4
    simp at hs hsh hf
    obtain ⟨h1, h2, h3, h4⟩ := hsh
    subst hs h1 h2 h3 h4 hP hN hf lP lN
    unfold maxLen at mP mN
    exact ⟨⟨⟨s, np, nd, wk, fi, ps, ns, f⟩, .slice pA ps.length pc, .slice nA ns.length nc⟩, rfl, pA, pc, nA, nc, rfl, rfl, rP, rN, by dsimp only; omega, by dsimp only; omega, bounds_i64 ws, bP⟩

/-- A list of raw objects, as a row. -/
theorem row_of_objs {fuel : Nat} {v : Value} {x : DataW H × List MemPlace} (h : DataW.trod enc Try.prog W base spare held fuel 22 [v] = some x) :
    ∃ A n c ros, v = .slice A n c ∧ Row W 8 A n c (rowOf ros) ∧ ros.length = n ∧ (∀ r ∈ ros, RO.raw W r) ∧ n ≤ maxLen := by
  rcases open_slice Try.underlying22 h with ⟨hcs, -⟩ | ⟨a, len, cap, m, n, D, Pl, hcs, -, hl, hm, hmm, -, hi⟩
  · injection hcs with hcs
    exact ⟨none, 0, 0, [], hcs, Row.nil _ _ _ _, rfl, fun r hr => (by cases hr), Nat.zero_le _⟩
  · injection hcs with hcs
    have e8 : Try.prog.cellsOf 41 = 8 := by kernel_rfl
    rw [e8] at hi
    have hlm : len ≤ m := by rw [hmm]; split <;> omega
    have each : ∀ i, ∃ r : RO, i < len → W.cells? base (a.add (i * 8)) 8 = some r.cells ∧ r.raw W := by
      intro i
      by_cases hil : i < len
      · obtain ⟨cs', hc, ht⟩ := hi i (by omega)
        obtain ⟨r, rfl, hr⟩ := open_obj ht
        exact ⟨r, fun _ => ⟨hc, hr⟩⟩
      · exact ⟨⟨⟨0, 0, 0, false, false, [], [], false⟩, .nilFunc, .nilFunc⟩, fun h => absurd h hil⟩
    obtain ⟨F, hF⟩ := Classical.axiomOfChoice each
    refine ⟨some a, len, cap, (List.range len).map F, hcs, ⟨by simp [rowOf_length], hl, fun hn => ?_⟩, by simp, fun r hr => ?_, by omega⟩
    · have hcell : ∀ i j, i < len → j < 8 → ∃ u, (F i).cells[j]? = some u ∧ W.cell? ((a.add (i * 8)).add j) = some u := by
        intro i j hil hj
        obtain ⟨-, hcl, hat⟩ := World.cells?_some (hF i hil).1
        have hj' : j < (F i).cells.length := by rw [RO.cells_length]; exact hj
        exact ⟨_, List.getElem?_eq_getElem hj', by rw [hat j hj']; exact List.getElem?_eq_getElem hj'⟩
      obtain ⟨b, o, spot⟩ := a
      have hspot : spot = none := by
        obtain ⟨u, -, hu⟩ := hcell 0 0 hn (by decide)
        simpa [Addr.add] using World.cell?_spot hu
      subst hspot
      refine ⟨b, o, rfl, ?_, fun j u hu => ?_⟩
      · obtain ⟨u, -, hu⟩ := hcell 0 0 hn (by decide)
        exact World.block_lt_of_cell? W ⟨b, o, none⟩ (by simpa [Addr.add] using hu)
      · have hjl : j < ((List.range len).map F).length * 8 := by rw [← rowOf_length]; exact (List.getElem?_eq_some_iff.1 hu).1
        simp only [List.length_map, List.length_range] at hjl
        have hq : j / 8 < len := by omega
        have hr8 : j % 8 < 8 := by omega
        obtain ⟨u', h1, h2⟩ := hcell (j / 8) (j % 8) hq hr8
        have h3 := rowOf_get ((List.range len).map F) (j / 8) (F (j / 8)) (j % 8) (by simp [hq]) hr8
        have e : j / 8 * 8 + j % 8 = j := by omega
        rw [e, hu, h1] at h3
        rw [addr_add, addr_add, Nat.add_assoc, e] at h2
        rw [h2, ← h3]
    · obtain ⟨i, hi', rfl⟩ := List.mem_map.1 hr
      exact (hF i (by simpa using hi')).2
end
end Go.Proofs.Ytbjknkgefpeohaa
