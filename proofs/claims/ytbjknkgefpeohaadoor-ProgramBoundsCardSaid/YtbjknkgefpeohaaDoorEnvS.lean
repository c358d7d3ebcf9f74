/- What a world of this seat must hold for the library's functions to be met: the tables and the two errors of strconv, as the rows list them. Conditions: none; plain lemmas. -/
import Derived.Test.YtbjknkgefpeohaaDoorRight
import Derived.Lib.LaidTab
import Derived.Test.YtbjknkgefpeohaaDoorWords
namespace Go.Proofs.YtbjknkgefpeohaaDoor
open Go.RowKit

theorem var_lt {P : Program} {n : String} {w : World} {cs : Array Value} (h : w.var? P n = some cs) : ∃ g, P.globalNamed n = some g ∧ g < w.heap.size := by
  unfold World.var? at h
  cases hg : P.globalNamed n with
  | none => rw [hg] at h; cases h
  | some g =>
    refine ⟨g, rfl, ?_⟩
    rw [hg] at h
    rcases Nat.lt_or_ge g w.heap.size with hl | hl
    · exact hl
    · simp [Array.getElem?_eq_none hl] at h
theorem var_fr {P : Program} {n : String} {w w' : World} {cs : Array Value} (h : w.var? P n = some cs) (hf : Fr No w w') : w'.var? P n = some cs := by
  obtain ⟨g, hg, hl⟩ := var_lt h
  have hb := hf.block g hl (fun x => x)
  rw [← h]
  simp [World.var?, hg, hb]

/-- What the library's functions read of the package-level variables. -/
structure Env (w : World) : Prop where
  pow : Lib.TabIs Tryd.prog w "internal/strconv.uint64pow10" .u64 Lib.pow10Tab
  syn : ∃ tp p, w.var? Tryd.prog "strconv.ErrSyntax" = some #[.iface tp p]
  rng : ∃ tp p, w.var? Tryd.prog "strconv.ErrRange" = some #[.iface tp p]
  max : ∃ m, w.cell? ⟨3, 0, none⟩ = some (.int .i64 m)
theorem Env.fr {w w' : World} (h : Env w) (hf : Fr No w w') : Env w' := by
  obtain ⟨h1, ⟨a, b, h2⟩, ⟨c, d, h3⟩, ⟨m, h4⟩⟩ := h
  refine ⟨var_fr h1 hf, ⟨a, b, var_fr h2 hf⟩, ⟨c, d, var_fr h3 hf⟩, ⟨m, ?_⟩⟩
  have hl : 3 < w.heap.size := by
    rcases Nat.lt_or_ge 3 w.heap.size with hl | hl
    · exact hl
    · simp [World.cell?, Array.getElem?_eq_none hl] at h4
  rw [hf.cell (p := ⟨3, 0, none⟩) hl (fun x => x)]
  exact h4

end Go.Proofs.YtbjknkgefpeohaaDoor
