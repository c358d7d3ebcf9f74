/- strings.Split at a blank, in the words of this seat. Conditions: fewer than 2^32 bytes. -/
import Derived.Test.YtbjknkgefpeohaaDoorEnv
namespace Go.Proofs.YtbjknkgefpeohaaDoor
open Go.RowKit

theorem splitB_len (sep : ByteArray) (h1 : 1 ≤ sep.size) : ∀ (k : Nat) (s : ByteArray), Lib.countB s sep = k → (Lib.splitB sep 0 k s).length = k + 1
  | 0, _, _ => rfl
  | k + 1, s, h => by
    rcases Lib.indexB_cases s sep with hm | ⟨i, hi, -⟩
    · rw [Lib.countB_miss s sep hm] at h; omega
    · rw [Lib.splitB_hit sep 0 k s i hi, List.length_cons]
      rw [Lib.countB_hit s sep i h1 hi] at h
      rw [splitB_len sep h1 k _ (by omega)]


theorem split_calls (s : ByteArray) (hs : s.size < 4294967281) (w : World) (he : Env w) :
    Calls Tryd.prog 29 #[.string s, .string ⟨#[32]⟩] w fun e w' => ∃ bw : List ByteArray, e = .returned (.slice (some ⟨w.heap.size, 0, none⟩) bw.length bw.length) ∧ bw.map (·.data.toList) = wordsOf s.data.toList ∧ 1 ≤ bw.length ∧ bw.length ≤ s.size + 2 ∧ Whole w' w.heap.size 9 (bw.map Value.string) ∧ Fr No w w' := by
  obtain ⟨m, hm⟩ := he.max
  refine (Tryd.strings_Split s ⟨#[32]⟩ m w hs hm (by decide)).mono ?_
  rintro e w' ⟨rfl, rfl⟩
  have hlen := splitB_len ⟨#[32]⟩ (by decide) _ s rfl
  have hcl := Lib.count_le s.data.toList [32]
  have hcl2 : Lib.countB s ⟨#[32]⟩ ≤ s.size + 1 := by
    have : Lib.countB s ⟨#[32]⟩ = Lib.count s.data.toList [32] := rfl
    rw [this]
    have h2 : s.data.toList.length = s.size := rfl
    omega
  refine ⟨Lib.splitB ⟨#[32]⟩ 0 (Lib.countB s ⟨#[32]⟩) s, by rw [hlen], Lib.splitB_data _ _ _ _, by omega, by omega, Whole.new w _ _, (Fr.refl _ _).alloc _⟩
end Go.Proofs.YtbjknkgefpeohaaDoor
