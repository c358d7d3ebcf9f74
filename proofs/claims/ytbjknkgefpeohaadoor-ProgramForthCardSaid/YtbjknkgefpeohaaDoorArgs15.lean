/- A deed that came in by value, opened. Conditions: none; plain lemmas. -/
import Derived.Test.YtbjknkgefpeohaaDoorLaid15
import Derived.Test.YtbjknkgefpeohaaDoorFit15
import Derived.Deep.Slices
namespace Go.Proofs.YtbjknkgefpeohaaDoor
open Go.ChangeShapes Go.WideShapes Go.ChangeAt Go.RowKit Go.Deep

set_option maxRecDepth 100000
section
variable {H : Type} {enc : TypeId × Value → H} {W : World} {base : Nat} {spare : Nat → Bool} {held : Bool}
theorem open_deed {r : Reach} {b0 : Nat} {v : Value} {d : DataW H} {p : List MemPlace} (hv : Value.okWide Tryd.prog W r b0 23 v) (h : DataW.Trod enc Tryd.prog W base spare held 23 v d p) :
    ∃ e : PDeed, v = .agg #[.int .i64 e.kind, .int .i64 e.a, .int .i64 e.b, .int .i64 e.i, .int .i64 e.n] ∧ e.i64 := by
  obtain ⟨⟨l⟩, rfl, hsz⟩ := okWide_struct Tryd.underlying23 hv
  obtain ⟨fuel, hf⟩ := h
  obtain ⟨xs, m, rfl, -, hlen, hxl, hg⟩ := DataW.trod_struct Tryd.underlying23 hf
  have h5 : l.length = 5 := hsz.trans (by kernel_rfl)
  have hx5 : xs.length = 5 := hxl
  match l, h5, xs, hx5 with
  | [c0, c1, c2, c3, c4], _, [y0, y1, y2, y3, y4], _ =>
    have e1 : Tryd.prog.cellsOf 3 = 1 := by kernel_rfl
    have g0 := hg 0 _ rfl
    have g1 := hg 1 _ rfl
    have g2 := hg 2 _ rfl
    have g3 := hg 3 _ rfl
    have g4 := hg 4 _ rfl
    simp [e1, Value.cells] at g0 g1 g2 g3 g4
    obtain ⟨a0, h0, -, w0⟩ := DataW.trod_int Tryd.underlying3 g0
    obtain ⟨a1, h1, -, w1⟩ := DataW.trod_int Tryd.underlying3 g1
    obtain ⟨a2, h2, -, w2⟩ := DataW.trod_int Tryd.underlying3 g2
    obtain ⟨a3, h3, -, w3⟩ := DataW.trod_int Tryd.underlying3 g3
    obtain ⟨a4, h4, -, w4⟩ := DataW.trod_int Tryd.underlying3 g4
    simp at h0 h1 h2 h3 h4
    subst h0 h1 h2 h3 h4
    exact ⟨⟨a0, a1, a2, a3, a4⟩, rfl, bounds_i64 w0, bounds_i64 w1, bounds_i64 w2, bounds_i64 w3, bounds_i64 w4⟩
end
end Go.Proofs.YtbjknkgefpeohaaDoor
