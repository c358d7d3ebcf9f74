/- The library's contracts in the words of this seat. Conditions: the tables and the two errors of strconv, as the rows list them. -/
import Derived.Test.YtbjknkgefpeohaaDoorShelf
import Derived.Test.YtbjknkgefpeohaaDoorEnvS
namespace Go.Proofs.YtbjknkgefpeohaaDoor
open Go.RowKit

theorem fr_grow (w : World) (k : Nat) (os : Array Obj) : Fr No w (Sort.grow (w.drewN k) os) :=
  ⟨rfl, rfl, rfl, by simp [Sort.grow], fun i hi _ => by
    have h : (Sort.grow (w.drewN k) os).heap = w.heap ++ os := rfl
    rw [h, Array.getElem?_append_left hi]⟩

theorem itoa_calls (n : Int) (h0 : -9223372036854775808 ≤ n) (h1 : n ≤ 9223372036854775807) (w : World) (he : Env w) :
    Calls Tryd.prog 21 #[.int .i64 n] w fun e w' => e = .returned (.string ⟨(Lib.itoa n).toArray⟩) ∧ Fr No w w' :=
  (Tryd.strconv_Itoa n h0 h1 w he.pow).mono fun _ _ ⟨h, k, os, hw⟩ => ⟨h, hw ▸ fr_grow w k os⟩

theorem atoi_calls (s : ByteArray) (hs : s.size ≤ 281474976710656) (w : World) (he : Env w) :
    Calls Tryd.prog 30 #[.string s] w fun e w' => ∃ x, e = .returned (.tuple #[.int .i64 (atoiVal s.data.toList), x]) ∧ (x = .nilIface ∨ ∃ t p, x = .iface t p) ∧ Fr No w w' := by
  cases h : Lib.atoiAll s.data.toList with
  | ok v =>
    refine (Tryd.strconv_Atoi_ok s (by omega) v h w).mono ?_
    rintro e w' ⟨rfl, hw⟩
    refine ⟨_, by rw [atoiVal, h], .inl rfl, ?_⟩
    rcases hw with rfl | ⟨t, rfl⟩
    · exact Fr.refl _ _
    · exact fr_of_below (Lib.bytesWorld_below _ _ _)
  | range =>
    obtain ⟨a, b, hv⟩ := he.rng
    refine (Tryd.strconv_Atoi_range_var s hs h a b w hv).mono ?_
    rintro e w' ⟨N, rfl, _, _, hb⟩
    exact ⟨_, by rw [atoiVal, h], .inr ⟨_, _, rfl⟩, fr_of_below hb⟩
  | _ =>
    obtain ⟨a, b, hv⟩ := he.syn
    refine (Tryd.strconv_Atoi_syntax_var s hs (fun v e => by rw [h] at e; cases e) (fun e => by rw [h] at e; cases e) a b w hv).mono ?_
    rintro e w' ⟨N, rfl, _, _, hb⟩
    exact ⟨_, by rw [atoiVal, h], .inr ⟨_, _, rfl⟩, fr_of_below hb⟩
end Go.Proofs.YtbjknkgefpeohaaDoor
