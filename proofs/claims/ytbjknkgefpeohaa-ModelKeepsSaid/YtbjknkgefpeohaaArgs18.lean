/- Arrays of six integers and deeds that came in by value, opened. Conditions: none; plain lemmas. -/
import Derived.Test.YtbjknkgefpeohaaOpen18
namespace Go.Proofs.Ytbjknkgefpeohaa
open Go.ChangeShapes Go.WideShapes Go.ChangeAt Go.RowKit Go.Deep

section
variable {H : Type} {enc : TypeId × Value → H} {W : World} {base : Nat} {spare : Nat → Bool} {held : Bool}
theorem open_six {r : Reach} {b0 : Nat} {v : Value} {d : DataW H} {p : List MemPlace} (hv : Value.okWide Try.prog W r b0 24 v) (h : DataW.Trod enc Try.prog W base spare held 24 v d p) :
    ∃ r0 r1 r2 r3 r4 r5 : Int, v = .agg #[.int .i64 r0, .int .i64 r1, .int .i64 r2, .int .i64 r3, .int .i64 r4, .int .i64 r5] ∧ ∀ x ∈ [r0, r1, r2, r3, r4, r5], I64 x := by
  have hv2 : ∃ cs, v = .agg cs := by
    simp only [Value.okWide, Try.underlying24] at hv
    obtain ⟨cs, h1, _⟩ := hv
    exact ⟨cs, h1⟩
  obtain ⟨⟨l⟩, rfl⟩ := hv2
  obtain ⟨fuel, hf⟩ := h
  obtain ⟨xs, m, rfl, -, hlen, hxl, hg⟩ := DataW.trod_array Try.underlying24 hf
  have h6 : l.length = 6 := by
    have : Try.prog.cellsOf 24 = 6 := by kernel_rfl
    simpa [Value.cells, this] using hlen
  match l, h6, xs, hxl with
  | [c0, c1, c2, c3, c4, c5], _, [y0, y1, y2, y3, y4, y5], _ =>
    have e1 : Try.prog.cellsOf 3 = 1 := by kernel_rfl
    have g0 := hg 0 (by omega)
    have g1 := hg 1 (by omega)
    have g2 := hg 2 (by omega)
    have g3 := hg 3 (by omega)
    have g4 := hg 4 (by omega)
    have g5 := hg 5 (by omega)
    simp [e1, Value.cells] at g0 g1 g2 g3 g4 g5
    obtain ⟨a0, h0, -, w0⟩ := DataW.trod_int Try.underlying3 g0
    obtain ⟨a1, h1, -, w1⟩ := DataW.trod_int Try.underlying3 g1
    obtain ⟨a2, h2, -, w2⟩ := DataW.trod_int Try.underlying3 g2
    obtain ⟨a3, h3, -, w3⟩ := DataW.trod_int Try.underlying3 g3
    obtain ⟨a4, h4, -, w4⟩ := DataW.trod_int Try.underlying3 g4
    obtain ⟨a5, h5, -, w5⟩ := DataW.trod_int Try.underlying3 g5
    simp at h0 h1 h2 h3 h4 h5
    subst h0 h1 h2 h3 h4 h5
    refine ⟨a0, a1, a2, a3, a4, a5, rfl, fun x hx => ?_⟩
    simp only [List.mem_cons, List.not_mem_nil, or_false] at hx
    rcases hx with rfl | rfl | rfl | rfl | rfl | rfl <;> exact bounds_i64 ‹_›
theorem open_deed {r : Reach} {b0 : Nat} {v : Value} {d : DataW H} {p : List MemPlace} (hv : Value.okWide Try.prog W r b0 26 v) (h : DataW.Trod enc Try.prog W base spare held 26 v d p) :
    ∃ e : PDeed, v = .agg #[.int .i64 e.kind, .int .i64 e.a, .int .i64 e.b, .int .i64 e.i, .int .i64 e.n] ∧ e.i64 := by
  obtain ⟨⟨l⟩, rfl, hsz⟩ := okWide_struct Try.underlying26 hv
  obtain ⟨fuel, hf⟩ := h
  obtain ⟨xs, m, rfl, -, hlen, hxl, hg⟩ := DataW.trod_struct Try.underlying26 hf
  have h5 : l.length = 5 := hsz.trans (by kernel_rfl)
  have hx5 : xs.length = 5 := hxl
  match l, h5, xs, hx5 with
  | [c0, c1, c2, c3, c4], _, [y0, y1, y2, y3, y4], _ =>
    have e1 : Try.prog.cellsOf 3 = 1 := by kernel_rfl
    have g0 := hg 0 _ rfl
    have g1 := hg 1 _ rfl
    have g2 := hg 2 _ rfl
    have g3 := hg 3 _ rfl
    have g4 := hg 4 _ rfl
    simp [e1, Value.cells] at g0 g1 g2 g3 g4
    obtain ⟨a0, h0, -, w0⟩ := DataW.trod_int Try.underlying3 g0
    obtain ⟨a1, h1, -, w1⟩ := DataW.trod_int Try.underlying3 g1
    obtain ⟨a2, h2, -, w2⟩ := DataW.trod_int Try.underlying3 g2
    obtain ⟨a3, h3, -, w3⟩ := DataW.trod_int Try.underlying3 g3
    obtain ⟨a4, h4, -, w4⟩ := DataW.trod_int Try.underlying3 g4
    simp at h0 h1 h2 h3 h4
    subst h0 h1 h2 h3 h4
    exact ⟨⟨a0, a1, a2, a3, a4⟩, rfl, bounds_i64 w0, bounds_i64 w1, bounds_i64 w2, bounds_i64 w3, bounds_i64 w4⟩
end
end Go.Proofs.Ytbjknkgefpeohaa
