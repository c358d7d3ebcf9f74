/- Contracts of free and take. Conditions: registers in their bounds, lists shorter than 2^40. -/
import Derived.Test.YtbjknkgefpeohaaDoing3
import Derived.Test.YtbjknkgefpeohaaEq
namespace Go.Proofs.Ytbjknkgefpeohaa
open Go.RowKit
attribute [local go_sem ↓] Go.wp_at_zero Go.wp_at_succ

def freeE (l : List PObj) (v : Int) : Int ⊕ Nat :=
  if v = 0 then .inl 143 else
  match l.findIdx? (fun o => o.serial == v) with
  | none => .inl 143
  | some i => match l[i]? with
    | none => .inl 143
    | some o => if o.freed then .inl 142 else .inr i

def Freed (x : DX) (w : World) (e : Ending) (w' : World) : Prop :=
  (∃ c, freeE (x.m.ros.map RO.o) (x.r.getD x.d.a.toNat 0) = .inl c ∧ e = .returned (.int .i64 c) ∧ Fr No w w') ∨
  (∃ i b o w1, freeE (x.m.ros.map RO.o) (x.r.getD x.d.a.toNat 0) = .inr i ∧ x.m.A = some ⟨b, o, none⟩ ∧ e = .returned (.int .i64 0) ∧ Fr No w w1 ∧ PutAt w1 w' b (o + i * 8 + 7) (.bool true))

set_option maxHeartbeats 2000000 in
theorem free_calls (g : Nat) (x : DX) (w : World) (h : Whole w g 59 x.cells) (hrow : Row w 8 x.m.A x.m.ros.length x.m.c (rowOf x.m.ros)) (hz : ∀ b o j, x.m.A = some ⟨b, o, none⟩ → w.frozen? ⟨b, j, none⟩ = false) (hn : x.m.ros.length ≤ Cap)
    (h0 : 0 ≤ x.d.a) (h1 : x.d.a ≤ 5) :
    Calls Try.prog 47 #[.pointer (some ⟨g, 0, none⟩)] w (Freed x w) := by
  have c1 : w.cell? ⟨g, 1, none⟩ = some (.int .i64 x.d.a) := h.cell 1
  have c5 : w.cell? ⟨g, 5, none⟩ = some (.slice x.m.A x.m.ros.length x.m.c) := h.cell 5
  have c6 : w.cell? ⟨g, 6, none⟩ = some (.slice x.m.Q x.m.qs.length x.m.qc) := h.cell 6
  have c3 : w.cell? ⟨g, 7 + x.d.a.toNat, none⟩ = some (.int .i64 (x.r.getD x.d.a.toNat 0)) := (h.cell _).trans (DX.reg h0 h1)
  generalize hPost : Freed x w = Post
  have hP1 : ∀ c, freeE (x.m.ros.map RO.o) (x.r.getD x.d.a.toNat 0) = .inl c → ∀ w', Fr No w w' → Post (.returned (.int .i64 c)) w' := fun c hc w' hw => hPost ▸ .inl ⟨c, hc, rfl, hw⟩
  have hP2 : ∀ i b o w1 w', freeE (x.m.ros.map RO.o) (x.r.getD x.d.a.toNat 0) = .inr i → x.m.A = some ⟨b, o, none⟩ → Fr No w w1 → PutAt w1 w' b (o + i * 8 + 7) (.bool true) → Post (.returned (.int .i64 0)) w' := fun i b o w1 w' q1 q2 q3 q4 => hPost ▸ .inr ⟨i, b, o, w1, q1, q2, rfl, q3, q4⟩
  clear hPost
  generalize x.r.getD x.d.a.toNat 0 = v at *
  have hgl := h.lt
  have hb6 : x.d.a < 6 := by omega
  clear h
  generalize x.d.a = reg at *
  by_cases hv : v = 0
  · subst hv
    have hat : ∀ W, Fr No w W → Calls Try.prog 26 #[.agg #[.slice x.m.A x.m.ros.length x.m.c, .slice x.m.Q x.m.qs.length x.m.qc], .int .i64 0] W fun e w' => ∃ q, e = .returned (.pointer q) ∧ Fr No W w' := fun W hW => at_any x.m.ros x.m.A x.m.c x.m.Q x.m.qs.length x.m.qc 0 W hn (hrow.no hW)
    have HP := Lib.hid (hP1 143 (by simp [freeE]))
    have Hat := Lib.hid hat
    clear hat hP1 hP2
    go_enter Try.func47, Try.ntmps47
    go_wp2_with fail
    go_region_held3 (fun w' => w'.cell? ⟨g, 1, none⟩ = some (.int .i64 reg) ∧ w'.cell? ⟨g, 5, none⟩ = some (.slice x.m.A x.m.ros.length x.m.c) ∧ w'.cell? ⟨g, 6, none⟩ = some (.slice x.m.Q x.m.qs.length x.m.qc) ∧ w'.cell? ⟨g, 7 + reg.toNat, none⟩ = some (.int .i64 0)) (first | go_keep | exact ⟨k0, k1, k2, k3⟩) ((go_at_call 26; refine (Hat.out _ ((Fr.refl _ _).drew)).mono ?_; rintro e w1 ⟨q, rfl, hf1⟩; have k0 := (hf1.cell (p := ⟨g, 1, none⟩) hgl (fun x => x)).trans c1; have k1 := (hf1.cell (p := ⟨g, 5, none⟩) hgl (fun x => x)).trans c5; have k2 := (hf1.cell (p := ⟨g, 6, none⟩) hgl (fun x => x)).trans c6; have k3 := (hf1.cell (p := ⟨g, 7 + reg.toNat, none⟩) hgl (fun x => x)).trans c3))
    go_wp2_with fail
    go_quiet (fail)
    go_wp2
    exact HP.out _ (((Fr.refl _ _).drew.trans hf1).drewN _)
  · have hv1 : (v == 0) = false := by simpa using hv
    cases hi : (x.m.ros.map RO.o).findIdx? (fun o => o.serial == v) with
    | none =>
      have hix : idxZ (x.m.ros.map (·.o.serial)) v = -1 := by rw [idxZ_map, hi]
      have hat : ∀ W, Fr No w W → Calls Try.prog 26 #[.agg #[.slice x.m.A x.m.ros.length x.m.c, .slice x.m.Q x.m.qs.length x.m.qc], .int .i64 v] W fun e w' => e = .returned (.pointer none) ∧ Fr No W w' := fun W hW => at_nil x.m.ros x.m.A x.m.c x.m.Q x.m.qs.length x.m.qc v W hn (hrow.no hW) hix
      have HP := Lib.hid (hP1 143 (by simp [freeE, hv, hi]))
      have Hat := Lib.hid hat
      clear hat hP1 hP2 hi hix hv
      go_enter Try.func47, Try.ntmps47
      go_wp2_with fail
      go_region_held3 (fun w' => w'.cell? ⟨g, 1, none⟩ = some (.int .i64 reg) ∧ w'.cell? ⟨g, 5, none⟩ = some (.slice x.m.A x.m.ros.length x.m.c) ∧ w'.cell? ⟨g, 6, none⟩ = some (.slice x.m.Q x.m.qs.length x.m.qc) ∧ w'.cell? ⟨g, 7 + reg.toNat, none⟩ = some (.int .i64 v)) (first | go_keep | exact ⟨k0, k1, k2, k3⟩) ((go_at_call 26; refine (Hat.out _ ((Fr.refl _ _).drew)).mono ?_; rintro e w1 ⟨rfl, hf1⟩; have k0 := (hf1.cell (p := ⟨g, 1, none⟩) hgl (fun x => x)).trans c1; have k1 := (hf1.cell (p := ⟨g, 5, none⟩) hgl (fun x => x)).trans c5; have k2 := (hf1.cell (p := ⟨g, 6, none⟩) hgl (fun x => x)).trans c6; have k3 := (hf1.cell (p := ⟨g, 7 + reg.toNat, none⟩) hgl (fun x => x)).trans c3))
      go_wp2_with fail
      go_quiet (fail)
      go_wp2
      exact HP.out _ (((Fr.refl _ _).drew.trans hf1).drewN _)
    | some i =>
      have hix : idxZ (x.m.ros.map (·.o.serial)) v = i := by rw [idxZ_map, hi]
      have hil : i < x.m.ros.length := by
        rw [List.findIdx?_eq_some_iff_getElem] at hi
        obtain ⟨h, _⟩ := hi
        simpa using h
      obtain ⟨r, hr⟩ : ∃ r, x.m.ros[i]? = some r := ⟨_, List.getElem?_eq_getElem hil⟩
      have hro : (x.m.ros.map RO.o)[i]? = some r.o := by simp [hr]
      have hE : freeE (x.m.ros.map RO.o) v = if r.o.freed then .inl 142 else .inr i := by simp only [freeE, if_neg hv, hi, hro]
      generalize hA : x.m.A = A at *
      obtain ⟨b, o, rfl, hbl, -⟩ := hrow.2.2 (by omega)
      have hat : ∀ W, Fr No w W → Calls Try.prog 26 #[.agg #[.slice (some ⟨b, o, none⟩) x.m.ros.length x.m.c, .slice x.m.Q x.m.qs.length x.m.qc], .int .i64 v] W fun e w' => e = .returned (.pointer (some ⟨b, o + i * 8, none⟩)) ∧ Fr No W w' := fun W hW => at_ptr x.m.ros b o x.m.c x.m.Q x.m.qs.length x.m.qc v i W hn (hrow.no hW) hix
      have hcs := obj_cells hrow hr
      have d7 : w.cell? ⟨b, o + i * 8 + 7, none⟩ = some (.bool r.o.freed) := hcs 7 (by decide)
      have z7 : w.frozen? ⟨b, o + i * 8 + 7, none⟩ = false := hz b o _ rfl
      have Hat := Lib.hid hat
      clear hat hi hix hv hr hro hcs hrow hz
      by_cases hfr : r.o.freed = true
      · rw [if_pos hfr] at hE
        have HP := Lib.hid (hP1 142 hE)
        clear hE hP1 hP2
        go_enter Try.func47, Try.ntmps47
        go_wp2_with fail
        go_region_held3 (fun w' => w'.cell? ⟨g, 1, none⟩ = some (.int .i64 reg) ∧ w'.cell? ⟨g, 5, none⟩ = some (.slice (some ⟨b, o, none⟩) x.m.ros.length x.m.c) ∧ w'.cell? ⟨g, 6, none⟩ = some (.slice x.m.Q x.m.qs.length x.m.qc) ∧ w'.cell? ⟨g, 7 + reg.toNat, none⟩ = some (.int .i64 v)) (first | go_keep | exact ⟨k0, k1, k2, k3⟩) ((go_at_call 26; refine (Hat.out _ ((Fr.refl _ _).drew)).mono ?_; rintro e w1 ⟨rfl, hf1⟩; have k0 := (hf1.cell (p := ⟨g, 1, none⟩) hgl (fun x => x)).trans c1; have k1 := (hf1.cell (p := ⟨g, 5, none⟩) hgl (fun x => x)).trans c5; have k2 := (hf1.cell (p := ⟨g, 6, none⟩) hgl (fun x => x)).trans c6; have k3 := (hf1.cell (p := ⟨g, 7 + reg.toNat, none⟩) hgl (fun x => x)).trans c3))
        go_wp2_with fail
        have e7 := (hf1.cell (p := ⟨b, o + i * 8 + 7, none⟩) hbl (fun x => x)).trans d7
        go_quiet (fail)
        go_wp2
        exact HP.out _ (((Fr.refl _ _).drew.trans hf1).drewN _)
      · have hfr' : r.o.freed = false := by simpa using hfr
        rw [if_neg hfr] at hE
        have HP := Lib.hid (fun w1 w' => hP2 i b o w1 w' hE rfl)
        clear hfr hE hP1 hP2
        go_enter Try.func47, Try.ntmps47
        go_wp2_with fail
        go_region_held3 (fun w' => w'.cell? ⟨g, 1, none⟩ = some (.int .i64 reg) ∧ w'.cell? ⟨g, 5, none⟩ = some (.slice (some ⟨b, o, none⟩) x.m.ros.length x.m.c) ∧ w'.cell? ⟨g, 6, none⟩ = some (.slice x.m.Q x.m.qs.length x.m.qc) ∧ w'.cell? ⟨g, 7 + reg.toNat, none⟩ = some (.int .i64 v)) (first | go_keep | exact ⟨k0, k1, k2, k3⟩) ((go_at_call 26; refine (Hat.out _ ((Fr.refl _ _).drew)).mono ?_; rintro e w1 ⟨rfl, hf1⟩; have k0 := (hf1.cell (p := ⟨g, 1, none⟩) hgl (fun x => x)).trans c1; have k1 := (hf1.cell (p := ⟨g, 5, none⟩) hgl (fun x => x)).trans c5; have k2 := (hf1.cell (p := ⟨g, 6, none⟩) hgl (fun x => x)).trans c6; have k3 := (hf1.cell (p := ⟨g, 7 + reg.toNat, none⟩) hgl (fun x => x)).trans c3))
        go_wp2_with fail
        have e7 := (hf1.cell (p := ⟨b, o + i * 8 + 7, none⟩) hbl (fun x => x)).trans d7
        have f7 := (hf1.frozen (p := ⟨b, o + i * 8 + 7, none⟩) hbl (fun x => x)).trans z7
        go_quiet (fail)
        go_wp2
        exact HP.out _ _ (((Fr.refl _ _).drew.trans hf1).drewN _) (PutAt.mk _ _ _ _)
end Go.Proofs.Ytbjknkgefpeohaa
