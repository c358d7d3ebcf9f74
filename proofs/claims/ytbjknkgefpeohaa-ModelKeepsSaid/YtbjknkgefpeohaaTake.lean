/- Contract of take. Conditions: registers in their bounds, lists shorter than 2^40. -/
import Derived.Test.YtbjknkgefpeohaaFree
namespace Go.Proofs.Ytbjknkgefpeohaa
open Go.RowKit
attribute [local go_sem ↓] Go.wp_at_zero Go.wp_at_succ

/-- The queue behind its first item. -/
def qTail (Q : Option Addr) (qc : Nat) : Option Addr := if qc = 1 then Q else Q.map (·.add 2)
theorem row_tail {w : World} {Q : Option Addr} {q : Int × Int} {qs : List (Int × Int)} {qc : Nat} (h : Row w 2 Q (q :: qs).length qc (itemVals (q :: qs))) : Row w 2 (qTail Q qc) qs.length (qc - 1) (itemVals qs) := by
  obtain ⟨h1, h2, h3⟩ := h
  obtain ⟨b, o, rfl, hb, hc⟩ := h3 (by simp)
  refine ⟨itemVals_length qs, by simp at h2; omega, fun hn => ⟨b, o + 2, ?_, hb, fun j u hu => ?_⟩⟩
  · simp at h2
    unfold qTail
    rw [if_neg (by omega)]
    rfl
  · have := hc (j + 2) u (by
      have e : itemVals (q :: qs) = .int .i64 q.1 :: .int .i64 q.2 :: itemVals qs := rfl
      rw [e]; simpa using hu)
    rw [← this]
    congr 2
    omega

/-- What take leaves. -/
def Taken (g : Nat) (x : DX) (w : World) (e : Ending) (w' : World) : Prop := e = .returned (.int .i64 0) ∧ Fr (Only g) w w' ∧
  (((∀ q qs, x.m.qs = q :: qs → q.2 ≥ x.s) ∧ Whole w' g 59 (DX.cells { x with r := x.r.set x.d.a.toNat 0, t := 0 })) ∨
  (∃ q qs, x.m.qs = q :: qs ∧ q.2 < x.s ∧ Whole w' g 59 (DX.cells { x with m := { x.m with Q := qTail x.m.Q x.m.qc, qc := x.m.qc - 1, qs := qs }, r := x.r.set x.d.a.toNat q.1, t := q.1 })))

set_option maxHeartbeats 2000000 in
theorem take_calls (g : Nat) (x : DX) (w : World) (h : Whole w g 59 x.cells) (hl : x.r.length = 6) (hrow : Row w 2 x.m.Q x.m.qs.length x.m.qc (itemVals x.m.qs)) (hn : x.m.qs.length ≤ Cap) (hnc : ∀ b o, x.m.Q = some ⟨b, o, none⟩ → b ≠ g) (h0 : 0 ≤ x.d.a) (h1 : x.d.a ≤ 5) :
    Calls Try.prog 42 #[.pointer (some ⟨g, 0, none⟩)] w (Taken g x w) := by
  have c5 : w.cell? ⟨g, 5, none⟩ = some (.slice x.m.A x.m.ros.length x.m.c) := h.cell 5
  have c6 : w.cell? ⟨g, 6, none⟩ = some (.slice x.m.Q x.m.qs.length x.m.qc) := h.cell 6
  have c14 : w.cell? ⟨g, 14, none⟩ = some (.int .i64 x.s) := h.cell 14
  have z6 := h.frozen 6
  have hgl := h.lt
  generalize hPost : Taken g x w = Post
  have hlen : x.m.qs.length ≤ 9223372036854775807 := by have := cap_lt hn; omega
  clear hn
  cases hq : x.m.qs with
  | nil =>
    have hP : ∀ w', Fr (Only g) w w' → Whole w' g 59 (DX.cells { x with r := x.r.set x.d.a.toNat 0, t := 0 }) → Post (.returned (.int .i64 0)) w' := fun w' q1 q2 => hPost ▸ ⟨rfl, q1, .inl ⟨fun q qs he => (by rw [hq] at he; cases he), q2⟩⟩
    have HP := Lib.hid hP
    have ht := fun W (hW : Fr No w W) => tell_calls g x 0 W (hW.whole h (fun x => x)) hl h0 h1
    have Ht := Lib.hid ht
    clear hPost hP ht h hrow
    rw [hq] at c6
    clear hq
    go_enter Try.func42, Try.ntmps42
    go_wp2_with fail
    go_quiet (fail)
    go_wp2_with (go_at_call 35; refine (Ht.out _ ((Fr.refl _ _).drewN _)).mono ?_; rintro e w1 ⟨rfl, hw1, hf1⟩)
    exact HP.out _ (((Fr.refl _ _).drewN _).trans hf1) hw1
  | cons q qs =>
    obtain ⟨at', sq⟩ := q
    rw [hq] at hrow hlen
    obtain ⟨b, o, hA, hbl, -⟩ := hrow.2.2 (by simp)
    have hcap : qs.length + 1 ≤ x.m.qc := hrow.2.1
    have hbg := hnc b o hA
    have hir : Row w 2 (some ⟨b, o, none⟩) ((at', sq) :: qs).length x.m.qc (itemVals ((at', sq) :: qs)) := hA ▸ hrow
    obtain ⟨d0, d1⟩ := hir.item_at (k := 0) rfl
    simp only [Nat.zero_mul, Nat.add_zero] at d0 d1
    rw [hq, hA] at c6
    simp only [List.length_cons] at c6
    by_cases hs : sq ≥ x.s
    · have hP : ∀ w', Fr (Only g) w w' → Whole w' g 59 (DX.cells { x with r := x.r.set x.d.a.toNat 0, t := 0 }) → Post (.returned (.int .i64 0)) w' := fun w' q1 q2 => hPost ▸ ⟨rfl, q1, .inl ⟨fun q qs' he => by rw [hq] at he; injection he with he _; subst he; exact hs, q2⟩⟩
      have HP := Lib.hid hP
      have ht := fun W (hW : Fr No w W) => tell_calls g x 0 W (hW.whole h (fun x => x)) hl h0 h1
      have Ht := Lib.hid ht
      clear hPost hP ht h hrow hir hq
      generalize x.s = xs at *
      go_enter Try.func42, Try.ntmps42
      go_wp2_with fail
      go_quiet (fail)
      go_wp2_with (go_at_call 35; refine (Ht.out _ ((Fr.refl _ _).drewN _)).mono ?_; rintro e w1 ⟨rfl, hw1, hf1⟩)
      exact HP.out _ (((Fr.refl _ _).drewN _).trans hf1) hw1
    · have hs' : sq < x.s := by omega
      have hP : ∀ w', Fr (Only g) w w' → Whole w' g 59 (DX.cells { x with m := { x.m with Q := qTail x.m.Q x.m.qc, qc := x.m.qc - 1, qs := qs }, r := x.r.set x.d.a.toNat at', t := at' }) → Post (.returned (.int .i64 0)) w' := fun w' q1 q2 => hPost ▸ ⟨rfl, q1, .inr ⟨(at', sq), qs, hq, hs', q2⟩⟩
      have HP := Lib.hid hP
      have ht := fun W (hW : Whole W g 59 (DX.cells { x with m := { x.m with Q := qTail x.m.Q x.m.qc, qc := x.m.qc - 1, qs := qs } })) => tell_calls g { x with m := { x.m with Q := qTail x.m.Q x.m.qc, qc := x.m.qc - 1, qs := qs } } at' W hW hl h0 h1
      have Ht := Lib.hid ht
      have hset : ∀ v : Value, v = .slice (qTail x.m.Q x.m.qc) qs.length (x.m.qc - 1) → ∀ W : World, W.heap = w.heap → Whole (W.setCell ⟨g, 6, none⟩ v) g 59 (DX.cells { x with m := { x.m with Q := qTail x.m.Q x.m.qc, qc := x.m.qc - 1, qs := qs } }) := fun v hv W hW => by
        subst hv
        have h' : Whole W g 59 x.cells := by unfold Whole at h ⊢; rw [hW]; exact h
        exact h'.set 6 _
      have Hset := Lib.hid hset
      have hcells : ∀ (v : Value), (w.setCell ⟨g, 6, none⟩ v).cell? ⟨b, o, none⟩ = some (.int .i64 at') := fun v => by
        rw [World.cell?_setCell_other]
        · exact d0
        · intro e; injection e with e _ _; exact hbg e.symm
      by_cases hc1 : x.m.qc = 1
      · have hA1 : (some ⟨b, o, none⟩ : Option Addr) = qTail x.m.Q x.m.qc := by unfold qTail; rw [if_pos hc1, hA]
        have HA := Lib.hid hA1
        have Hc1 := Lib.hid hc1
        clear hPost hP ht h hrow hir hq hset hA1 hA
        rw [hc1] at c6
        have hq0 : qs.length = 0 := by omega
        have Hq0 := Lib.hid hq0
        rw [hq0] at c6
        clear hc1 hq0 hcap hlen
        generalize x.s = xs at *
        go_enter Try.func42, Try.ntmps42
        go_wp2_with fail
        go_quiet (fail)
        go_wp2_with fail
        refine (Ht.out _ (Hset.out _ ?_ _ ?_)).mono ?_
        · rw [← HA.out, Hq0.out, Hc1.out]
        · rfl
        rintro e w1 ⟨rfl, hw1, hf1⟩
        go_wp2
        exact HP.out _ ((((Fr.refl _ _).drewN _).set _ _ (Or.inl (only_self _)) _).trans hf1) hw1
      · have hA1 : (some ⟨b, o + 2, none⟩ : Option Addr) = qTail x.m.Q x.m.qc := by unfold qTail; rw [if_neg hc1, hA]; rfl
        have HA := Lib.hid hA1
        have hc2 : 1 < x.m.qc := by omega
        clear hPost hP ht h hrow hir hq hset hA1 hA
        generalize x.s = xs at *
        clear hc1
        have i1 : (1 : Int) ≤ (x.m.qc : Int) := by omega
        have i2 : (1 : Int) ≤ ((qs.length + 1 : Nat) : Int) := by omega
        have t1 : ((qs.length : Int) + 1 == 0) = false := by rw [beq_eq_false_iff_ne]; omega
        have t2 : decide (xs ≤ sq) = false := by simp; omega
        go_enter Try.func42, Try.ntmps42
        go_wp2_with fail
        go_quiet (fail)
        go_wp2_with fail
        have hv : (Value.slice (some ⟨b, o + 2, none⟩) qs.length (x.m.qc - 1)) = .slice (qTail x.m.Q x.m.qc) qs.length (x.m.qc - 1) := by rw [← HA.out]
        have hk := Ht.out _ (Hset.out _ hv (w.drewN nq) rfl)
        clear hv
        refine hk.mono ?_
        rintro e w1 ⟨rfl, hw1, hf1⟩
        have hF : Fr (Only g) w w1 := (((Fr.refl _ _).drewN _).set _ _ (Or.inl (only_self _)) _).trans hf1
        clear hf1
        have HQ := HP.out _ hF hw1
        go_wp2
        exact HQ
end Go.Proofs.Ytbjknkgefpeohaa
