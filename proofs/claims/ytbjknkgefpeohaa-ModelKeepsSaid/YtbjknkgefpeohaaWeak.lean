/- Contract of weak. Conditions: registers in their bounds, lists shorter than 2^40. -/
import Derived.Test.YtbjknkgefpeohaaLay
namespace Go.Proofs.Ytbjknkgefpeohaa
open Go.RowKit
attribute [local go_sem ↓] Go.wp_at_zero Go.wp_at_succ

/-- A weak object of a serial, whose list lies in a block. -/
def weakO (p : Int) (k : Nat) : RO := ⟨⟨0, 1, 0, true, false, [p], [], false⟩, .slice (some ⟨k, 0, none⟩) 1 1, .slice none 0 0⟩
/-- What weak leaves. -/
def Weaked (g B : Nat) (x : DX) (w : World) (e : Ending) (w' : World) : Prop :=
  ((x.r.getD x.d.b.toNat 0 = 0 ∨ (x.m.ros.map RO.o).findIdx? (fun o => o.serial == x.r.getD x.d.b.toNat 0) = none) ∧ e = .returned (.int .i64 143) ∧ Fr No w w') ∨
  (x.r.getD x.d.b.toNat 0 ≠ 0 ∧ (x.m.ros.map RO.o).findIdx? (fun o => o.serial == x.r.getD x.d.b.toNat 0) ≠ none ∧ ∃ w1 k, Fr No w w1 ∧ w.heap.size ≤ k ∧ Whole w1 k 3 [.int .i64 (x.r.getD x.d.b.toNat 0)] ∧ Laid g B x (weakO (x.r.getD x.d.b.toNat 0) k) w1 e w')

theorem laid_ret {g B : Nat} {x : DX} {o : RO} {w w' : World} {e : Ending} (h : Laid g B x o w e w') : ∃ n, e = .returned (.int .i64 n) := by
  rcases h with ⟨-, rfl, -⟩ | ⟨-, -, rfl, -⟩
  · exact ⟨_, rfl⟩
  · exact ⟨_, rfl⟩

set_option maxHeartbeats 2000000 in
theorem weak_calls (g B : Nat) (x : DX) (w : World) (h : Whole w g 59 x.cells) (hl : x.r.length = 6) (hB : B ≤ w.heap.size) (hown : w.ownsRow B 41 8 (.slice x.m.A x.m.ros.length x.m.c) x.m.ros.length (rowOf x.m.ros))
    (hng : (Value.slice x.m.A x.m.ros.length x.m.c).ownBlock ≠ some g) (hn : x.m.ros.length + 1 ≤ Cap) (h0 : 0 ≤ x.d.a) (h1 : x.d.a ≤ 5) (q0 : 0 ≤ x.d.b) (q1 : x.d.b ≤ 5) :
    Calls Try.prog 37 #[.pointer (some ⟨g, 0, none⟩)] w (Weaked g B x w) := by
  have c2 : w.cell? ⟨g, 2, none⟩ = some (.int .i64 x.d.b) := h.cell 2
  have c5 : w.cell? ⟨g, 5, none⟩ = some (.slice x.m.A x.m.ros.length x.m.c) := h.cell 5
  have c6 : w.cell? ⟨g, 6, none⟩ = some (.slice x.m.Q x.m.qs.length x.m.qc) := h.cell 6
  have c3 : w.cell? ⟨g, 7 + x.d.b.toNat, none⟩ = some (.int .i64 (x.r.getD x.d.b.toNat 0)) := (h.cell _).trans (DX.reg q0 q1)
  have hgl := h.lt
  have hb6 : x.d.b < 6 := by omega
  have hrow := Row.of_own hown
  generalize hPost : Weaked g B x w = Post
  have hP1 : (x.r.getD x.d.b.toNat 0 = 0 ∨ (x.m.ros.map RO.o).findIdx? (fun o => o.serial == x.r.getD x.d.b.toNat 0) = none) → ∀ w', Fr No w w' → Post (.returned (.int .i64 143)) w' := fun hh w' hw => hPost ▸ .inl ⟨hh, rfl, hw⟩
  by_cases hv : x.r.getD x.d.b.toNat 0 = 0
  · have HP := Lib.hid (hP1 (.inl hv))
    clear hP1 hPost h hown hng hrow
    rw [hv] at c3
    clear hv
    generalize x.d.b = bb at *
    go_enter Try.func37, Try.ntmps37
    go_wp2_with fail
    go_quiet (fail)
    go_wp2
    exact HP.out _ ((Fr.refl _ _).drewN _)
  · have hv1 : (x.r.getD x.d.b.toNat 0 == 0) = false := by simpa using hv
    cases hi : (x.m.ros.map RO.o).findIdx? (fun o => o.serial == x.r.getD x.d.b.toNat 0) with
    | none =>
      have hix : idxZ (x.m.ros.map (·.o.serial)) (x.r.getD x.d.b.toNat 0) = -1 := by rw [idxZ_map, hi]
      have hat : ∀ W, Fr No w W → Calls Try.prog 26 #[.agg #[.slice x.m.A x.m.ros.length x.m.c, .slice x.m.Q x.m.qs.length x.m.qc], .int .i64 (x.r.getD x.d.b.toNat 0)] W fun e w' => e = .returned (.pointer none) ∧ Fr No W w' := fun W hW => at_nil x.m.ros x.m.A x.m.c x.m.Q x.m.qs.length x.m.qc (x.r.getD x.d.b.toNat 0) W (by omega) (hrow.no hW) hix
      have Hat := Lib.hid hat
      have HP := Lib.hid (hP1 (.inr hi))
      clear hP1 hPost h hown hng hrow hat hix hi hv
      generalize x.r.getD x.d.b.toNat 0 = v at *
      generalize x.d.b = bb at *
      go_enter Try.func37, Try.ntmps37
      go_wp2_with fail
      go_quiet (fail)
      go_wp2_with (go_at_call 26; refine (Hat.out _ ((Fr.refl _ _).drewN _)).mono ?_; rintro e w1 ⟨rfl, hf1⟩)
      exact HP.out _ (((Fr.refl _ _).drewN _).trans hf1)
    | some i =>
      have hix : idxZ (x.m.ros.map (·.o.serial)) (x.r.getD x.d.b.toNat 0) = (i : Int) := by rw [idxZ_map, hi]
      have hil : i < x.m.ros.length := by
        have := List.findIdx?_eq_some_iff_getElem.1 hi
        simpa using this.1
      have hlay : ∀ W k, Fr No w W → w.heap.size ≤ k → Whole W k 3 [.int .i64 (x.r.getD x.d.b.toNat 0)] → Calls Try.prog 36 #[.pointer (some ⟨g, 0, none⟩), .agg #[.int .i64 0, .int .i64 1, .int .i64 0, .bool true, .bool false, .slice (some ⟨k, 0, none⟩) 1 1, .slice none 0 0, .bool false]] W fun e w' => ∃ n, e = .returned (.int .i64 n) ∧ Post e w' := fun W k hW hk hWk =>
        (lay_calls g B x (weakO (x.r.getD x.d.b.toNat 0) k) W (hW.whole h (fun x => x)) hl (by have := hW.size; omega) (own_fr hown hW (fun _ _ x => x)) hng hn h0 h1 ⟨_, _, _, _, rfl, rfl⟩).mono fun e w' hq => by
          obtain ⟨n, hn⟩ := laid_ret hq
          exact ⟨n, hn, hPost ▸ .inr ⟨hv, by rw [hi]; simp, W, k, hW, hk, hWk, hq⟩⟩
      obtain ⟨b, oo, hA, hbl, -⟩ := hrow.2.2 (by omega)
      have hat : ∀ W, Fr No w W → Calls Try.prog 26 #[.agg #[.slice (some ⟨b, oo, none⟩) x.m.ros.length x.m.c, .slice x.m.Q x.m.qs.length x.m.qc], .int .i64 (x.r.getD x.d.b.toNat 0)] W fun e w' => e = .returned (.pointer (some ⟨b, oo + i * 8, none⟩)) ∧ Fr No W w' := fun W hW => at_ptr x.m.ros b oo x.m.c x.m.Q x.m.qs.length x.m.qc (x.r.getD x.d.b.toNat 0) i W (by omega) (hA ▸ hrow.no hW) hix
      have Hat := Lib.hid hat
      have Hlay := Lib.hid hlay
      rw [hA] at c5
      clear hP1 hPost h hown hng hrow hat hix hi hv hA hlay
      generalize x.r.getD x.d.b.toNat 0 = v at *
      generalize x.d.b = bb at *
      go_enter Try.func37, Try.ntmps37
      go_wp2_with fail
      go_quiet (fail)
      go_wp2_with (go_at_call 26; refine (Hat.out _ ((Fr.refl _ _).drewN _)).mono ?_; rintro e w1 ⟨rfl, hf1⟩)
      have hF1 : Fr No w (w1.alloc (.cells #[.int .i64 v] 3)) := (((Fr.refl _ _).drewN _).trans hf1).alloc _
      have hsz : w.heap.size ≤ w1.heap.size := hf1.size
      have hk := Hlay.out _ _ hF1 hsz (Whole.new w1 3 [.int .i64 v])
      clear hF1 hsz hf1 Hlay Hat
      refine hk.mono ?_
      rintro e w2 ⟨n, rfl, hq⟩
      clear hk
      go_wp2
      exact hq
end Go.Proofs.Ytbjknkgefpeohaa
