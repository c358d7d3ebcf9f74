/- The state of a deed that is being done, in memory; contracts of what is done to it. Conditions: registers and fields in their bounds, lists shorter than 2^40. -/
import Derived.Test.YtbjknkgefpeohaaOwn
namespace Go.Proofs.Ytbjknkgefpeohaa
open Go.RowKit
attribute [local go_sem ↓] Go.wp_at_zero Go.wp_at_succ

structure DX where
  d : PDeed
  m : RM
  r : List Int
  f : Int
  s : Int
  t : Int
def DX.cells (x : DX) : List Value := [.int .i64 x.d.kind, .int .i64 x.d.a, .int .i64 x.d.b, .int .i64 x.d.i, .int .i64 x.d.n, .slice x.m.A x.m.ros.length x.m.c, .slice x.m.Q x.m.qs.length x.m.qc,
  .int .i64 (x.r.getD 0 0), .int .i64 (x.r.getD 1 0), .int .i64 (x.r.getD 2 0), .int .i64 (x.r.getD 3 0), .int .i64 (x.r.getD 4 0), .int .i64 (x.r.getD 5 0), .int .i64 x.f, .int .i64 x.s, .int .i64 x.t]
theorem six {r : List Int} (h : r.length = 6) : ∃ r0 r1 r2 r3 r4 r5, r = [r0, r1, r2, r3, r4, r5] := by
  match r, h with
  | [r0, r1, r2, r3, r4, r5], _ => exact ⟨r0, r1, r2, r3, r4, r5, rfl⟩
theorem upto6 {a : Int} (h0 : 0 ≤ a) (h1 : a ≤ 5) : a = 0 ∨ a = 1 ∨ a = 2 ∨ a = 3 ∨ a = 4 ∨ a = 5 := by omega

theorem DX.reg {x : DX} {a : Int} (h0 : 0 ≤ a) (h1 : a ≤ 5) : x.cells[7 + a.toNat]? = some (.int .i64 (x.r.getD a.toNat 0)) := by
  rcases upto6 h0 h1 with rfl | rfl | rfl | rfl | rfl | rfl <;> rfl
theorem DX.set_reg {x : DX} (hl : x.r.length = 6) {a : Int} (h0 : 0 ≤ a) (h1 : a ≤ 5) (v : Int) : x.cells.set (7 + a.toNat) (.int .i64 v) = DX.cells { x with r := x.r.set a.toNat v } := by
  obtain ⟨d, m, r, f, s, t⟩ := x
  obtain ⟨r0, r1, r2, r3, r4, r5, rfl⟩ := six hl
  rcases upto6 h0 h1 with rfl | rfl | rfl | rfl | rfl | rfl <;> rfl
theorem DX.set_told (x : DX) (v : Int) : x.cells.set 15 (.int .i64 v) = DX.cells { x with t := v } := rfl

set_option maxHeartbeats 1000000 in
theorem tell_calls (g : Nat) (x : DX) (v : Int) (w : World) (h : Whole w g 59 x.cells) (hl : x.r.length = 6) (h0 : 0 ≤ x.d.a) (h1 : x.d.a ≤ 5) :
    Calls Try.prog 35 #[.pointer (some ⟨g, 0, none⟩), .int .i64 v] w
      fun e w' => e = .returned (.int .i64 0) ∧ Whole w' g 59 (DX.cells { x with r := x.r.set x.d.a.toNat v, t := v }) ∧ Fr (Only g) w w' := by
  have hfin : Whole ((w.setCell ⟨g, 15, none⟩ (.int .i64 v)).setCell ⟨g, 7 + x.d.a.toNat, none⟩ (.int .i64 v)) g 59 (DX.cells { x with r := x.r.set x.d.a.toNat v, t := v }) := by
    have := (h.set 15 (.int .i64 v)).set (7 + x.d.a.toNat) (.int .i64 v)
    have e := DX.set_reg (x := { x with t := v }) hl h0 h1 v
    rw [DX.set_told] at this
    dsimp only at e
    rw [e] at this
    exact this
  have c1 : w.cell? ⟨g, 1, none⟩ = some (.int .i64 x.d.a) := h.cell 1
  have c2 : w.cell? ⟨g, 15, none⟩ = some (.int .i64 x.t) := h.cell 15
  have c3 : w.cell? ⟨g, 7 + x.d.a.toNat, none⟩ = some (.int .i64 (x.r.getD x.d.a.toNat 0)) := (h.cell _).trans (DX.reg h0 h1)
  have hz := h.frozen
  obtain ⟨v', hy'⟩ := cell?_setCell_some (w := w.drew) (p := ⟨g, 15, none⟩) (x := .int .i64 v) (q := ⟨g, 7 + x.d.a.toNat, none⟩) (v := .int .i64 (x.r.getD x.d.a.toNat 0)) (by go_simp)
  have Hfin := Lib.hid hfin
  clear hfin h
  generalize x.d.a = a at *
  go_enter Try.func35, Try.ntmps35
  go_wp2
  go_region
  all_goals go_wp2
  all_goals go_ret
  all_goals exact ⟨rfl, Hfin.out.drew, (((Fr.refl _ _).set _ _ (Or.inl (only_self _)) _).set _ _ (Or.inl (only_self _)) _).drew⟩

/-- What looking at a register's object tells, ahead of what is done to it; none: go on, with the object at that place. -/
def onE (l : List PObj) (v : Int) (weak : Bool) : Int ⊕ Nat :=
  if v = 0 then .inl 143 else
  match l.findIdx? (fun o => o.serial == v) with
  | none => .inl 143
  | some i => match l[i]? with
    | none => .inl 143
    | some o => if o.freed then .inl 142 else if o.weak ≠ weak then .inl 144 else .inr i
theorem idxZ_map (ros : List RO) (v : Int) : idxZ (ros.map (·.o.serial)) v = match (ros.map RO.o).findIdx? (fun o => o.serial == v) with | some i => (i : Int) | none => -1 := by
  unfold idxZ
  rw [List.findIdx?_map, List.findIdx?_map]
  rfl

set_option maxHeartbeats 1000000 in
theorem on_calls (g : Nat) (x : DX) (w : World) (h : Whole w g 59 x.cells) (hrow : Row w 8 x.m.A x.m.ros.length x.m.c (rowOf x.m.ros)) (hn : x.m.ros.length ≤ Cap)
    (reg : Int) (h0 : 0 ≤ reg) (h1 : reg ≤ 5) (weak : Bool) (fid : FuncId) (caps : Array Value) (R : Ending → World → Prop) (hcf : ∀ (args : Array Value) (W : World), (callFunc fid args).run Try.prog W = .ok (.enter fid args) W)
    (hdo : ∀ i b o W, onE (x.m.ros.map RO.o) (x.r.getD reg.toNat 0) weak = .inr i → x.m.A = some ⟨b, o, none⟩ → Fr No w W → Calls Try.prog fid (#[.pointer (some ⟨b, o + i * 8, none⟩)] ++ caps) W fun e w' => ∃ n, e = .returned (.int .i64 n) ∧ R e w') :
    Calls Try.prog 39 #[.pointer (some ⟨g, 0, none⟩), .int .i64 reg, .bool weak, .func (.func fid) #[] caps] w
      fun e w' => (∃ c, onE (x.m.ros.map RO.o) (x.r.getD reg.toNat 0) weak = .inl c ∧ e = .returned (.int .i64 c) ∧ Fr No w w') ∨ ((∃ i, onE (x.m.ros.map RO.o) (x.r.getD reg.toNat 0) weak = .inr i) ∧ R e w') := by
  have c5 : w.cell? ⟨g, 5, none⟩ = some (.slice x.m.A x.m.ros.length x.m.c) := h.cell 5
  have c6 : w.cell? ⟨g, 6, none⟩ = some (.slice x.m.Q x.m.qs.length x.m.qc) := h.cell 6
  have c3 : w.cell? ⟨g, 7 + reg.toNat, none⟩ = some (.int .i64 (x.r.getD reg.toNat 0)) := (h.cell _).trans (DX.reg h0 h1)
  generalize x.r.getD reg.toNat 0 = v at *
  have hgl := h.lt
  have hb6 : reg < 6 := by omega
  clear h
  by_cases hv : v = 0
  · subst hv
    have hat : ∀ W, Fr No w W → Calls Try.prog 26 #[.agg #[.slice x.m.A x.m.ros.length x.m.c, .slice x.m.Q x.m.qs.length x.m.qc], .int .i64 0] W fun e w' => ∃ q, e = .returned (.pointer q) ∧ Fr No W w' := fun W hW => at_any x.m.ros x.m.A x.m.c x.m.Q x.m.qs.length x.m.qc 0 W hn (hrow.no hW)
    have Hat := Lib.hid hat
    clear hat hdo
    go_enter Try.func39, Try.ntmps39
    go_wp2_with fail
    go_region_held3 (fun w' => w'.cell? ⟨g, 5, none⟩ = some (.slice x.m.A x.m.ros.length x.m.c) ∧ w'.cell? ⟨g, 6, none⟩ = some (.slice x.m.Q x.m.qs.length x.m.qc) ∧ w'.cell? ⟨g, 7 + reg.toNat, none⟩ = some (.int .i64 0)) (first | go_keep | exact ⟨k1, k2, k3⟩) ((go_at_call 26; refine (Hat.out _ ((Fr.refl _ _).drew)).mono ?_; rintro e w1 ⟨q, rfl, hf1⟩; have k1 := (hf1.cell (p := ⟨g, 5, none⟩) hgl (fun x => x)).trans c5; have k2 := (hf1.cell (p := ⟨g, 6, none⟩) hgl (fun x => x)).trans c6; have k3 := (hf1.cell (p := ⟨g, 7 + reg.toNat, none⟩) hgl (fun x => x)).trans c3))
    go_wp2
    go_ret
    exact .inl ⟨143, by simp [onE], rfl, (Fr.refl _ _).drew.trans hf1⟩
  · have hv1 : (v == 0) = false := by simpa using hv
    cases hi : (x.m.ros.map RO.o).findIdx? (fun o => o.serial == v) with
    | none =>
      have hix : idxZ (x.m.ros.map (·.o.serial)) v = -1 := by rw [idxZ_map, hi]
      have hat : ∀ W, Fr No w W → Calls Try.prog 26 #[.agg #[.slice x.m.A x.m.ros.length x.m.c, .slice x.m.Q x.m.qs.length x.m.qc], .int .i64 v] W fun e w' => e = .returned (.pointer none) ∧ Fr No W w' := fun W hW => at_nil x.m.ros x.m.A x.m.c x.m.Q x.m.qs.length x.m.qc v W hn (hrow.no hW) hix
      have hE : onE (x.m.ros.map RO.o) v weak = .inl 143 := by simp [onE, hv, hi]
      have Hat := Lib.hid hat
      have HE := Lib.hid hE
      clear hat hdo hE hi hix hv
      go_enter Try.func39, Try.ntmps39
      go_wp2_with fail
      go_region_held3 (fun w' => w'.cell? ⟨g, 5, none⟩ = some (.slice x.m.A x.m.ros.length x.m.c) ∧ w'.cell? ⟨g, 6, none⟩ = some (.slice x.m.Q x.m.qs.length x.m.qc) ∧ w'.cell? ⟨g, 7 + reg.toNat, none⟩ = some (.int .i64 v)) (first | go_keep | exact ⟨k1, k2, k3⟩) ((go_at_call 26; refine (Hat.out _ ((Fr.refl _ _).drew)).mono ?_; rintro e w1 ⟨rfl, hf1⟩; have k1 := (hf1.cell (p := ⟨g, 5, none⟩) hgl (fun x => x)).trans c5; have k2 := (hf1.cell (p := ⟨g, 6, none⟩) hgl (fun x => x)).trans c6; have k3 := (hf1.cell (p := ⟨g, 7 + reg.toNat, none⟩) hgl (fun x => x)).trans c3))
      go_wp2
      go_ret
      exact .inl ⟨143, HE.out, rfl, (Fr.refl _ _).drew.trans hf1⟩
    | some i =>
      have hix : idxZ (x.m.ros.map (·.o.serial)) v = i := by rw [idxZ_map, hi]
      have hil : i < x.m.ros.length := by
        rw [List.findIdx?_eq_some_iff_getElem] at hi
        obtain ⟨h, _⟩ := hi
        simpa using h
      obtain ⟨r, hr⟩ : ∃ r, x.m.ros[i]? = some r := ⟨_, List.getElem?_eq_getElem hil⟩
      have hro : (x.m.ros.map RO.o)[i]? = some r.o := by simp [hr]
      have hE : onE (x.m.ros.map RO.o) v weak = if r.o.freed then .inl 142 else if r.o.weak ≠ weak then .inl 144 else .inr i := by simp only [onE, if_neg hv, hi, hro]
      generalize hA : x.m.A = A at *
      obtain ⟨b, o, rfl, hbl, -⟩ := hrow.2.2 (by omega)
      have hat : ∀ W, Fr No w W → Calls Try.prog 26 #[.agg #[.slice (some ⟨b, o, none⟩) x.m.ros.length x.m.c, .slice x.m.Q x.m.qs.length x.m.qc], .int .i64 v] W fun e w' => e = .returned (.pointer (some ⟨b, o + i * 8, none⟩)) ∧ Fr No W w' := fun W hW => at_ptr x.m.ros b o x.m.c x.m.Q x.m.qs.length x.m.qc v i W hn (hrow.no hW) hix
      have hcs := obj_cells hrow hr
      have d3 : w.cell? ⟨b, o + i * 8 + 3, none⟩ = some (.bool r.o.weak) := hcs 3 (by decide)
      have d7 : w.cell? ⟨b, o + i * 8 + 7, none⟩ = some (.bool r.o.freed) := hcs 7 (by decide)
      have Hat := Lib.hid hat
      clear hat hi hix hv hr hro hcs hrow
      by_cases hfr : r.o.freed = true
      · rw [if_pos hfr] at hE
        have HE := Lib.hid hE
        clear hE hdo
        go_enter Try.func39, Try.ntmps39
        go_wp2_with fail
        go_region_held3 (fun w' => w'.cell? ⟨g, 5, none⟩ = some (.slice (some ⟨b, o, none⟩) x.m.ros.length x.m.c) ∧ w'.cell? ⟨g, 6, none⟩ = some (.slice x.m.Q x.m.qs.length x.m.qc) ∧ w'.cell? ⟨g, 7 + reg.toNat, none⟩ = some (.int .i64 v)) (first | go_keep | exact ⟨k1, k2, k3⟩) ((go_at_call 26; refine (Hat.out _ ((Fr.refl _ _).drew)).mono ?_; rintro e w1 ⟨rfl, hf1⟩; have k1 := (hf1.cell (p := ⟨g, 5, none⟩) hgl (fun x => x)).trans c5; have k2 := (hf1.cell (p := ⟨g, 6, none⟩) hgl (fun x => x)).trans c6; have k3 := (hf1.cell (p := ⟨g, 7 + reg.toNat, none⟩) hgl (fun x => x)).trans c3))
        have e7 := (hf1.cell (p := ⟨b, o + i * 8 + 7, none⟩) hbl (fun x => x)).trans d7
        go_wp2
        go_ret
        exact .inl ⟨142, HE.out, rfl, (Fr.refl _ _).drew.trans hf1⟩
      · have hfr' : r.o.freed = false := by simpa using hfr
        rw [if_neg hfr] at hE
        clear hfr
        by_cases hw : r.o.weak = weak
        · have hE' : onE (x.m.ros.map RO.o) v weak = .inr i := by rw [hE, if_neg (by simpa using hw)]
          have hw1 : (r.o.weak == weak) = true := by simp [hw]
          have Hdo : Hid (∀ W, Fr No w W → Calls Try.prog fid (#[.pointer (some ⟨b, o + i * 8, none⟩)] ++ caps) W fun e w' => ∃ n, e = .returned (.int .i64 n) ∧ R e w') := Lib.hid (fun W hW => hdo i b o W hE' rfl hW)
          have HE := Lib.hid hE'
          clear hE' hE hdo hw
          go_enter Try.func39, Try.ntmps39
          go_wp2_with fail
          go_region_held3 (fun w' => w'.cell? ⟨g, 5, none⟩ = some (.slice (some ⟨b, o, none⟩) x.m.ros.length x.m.c) ∧ w'.cell? ⟨g, 6, none⟩ = some (.slice x.m.Q x.m.qs.length x.m.qc) ∧ w'.cell? ⟨g, 7 + reg.toNat, none⟩ = some (.int .i64 v)) (first | go_keep | exact ⟨k1, k2, k3⟩) ((go_at_call 26; refine (Hat.out _ ((Fr.refl _ _).drew)).mono ?_; rintro e w1 ⟨rfl, hf1⟩; have k1 := (hf1.cell (p := ⟨g, 5, none⟩) hgl (fun x => x)).trans c5; have k2 := (hf1.cell (p := ⟨g, 6, none⟩) hgl (fun x => x)).trans c6; have k3 := (hf1.cell (p := ⟨g, 7 + reg.toNat, none⟩) hgl (fun x => x)).trans c3))
          have e7 := (hf1.cell (p := ⟨b, o + i * 8 + 7, none⟩) hbl (fun x => x)).trans d7
          have e3 := (hf1.cell (p := ⟨b, o + i * 8 + 3, none⟩) hbl (fun x => x)).trans d3
          go_wp2_with (refine (Hdo.out _ ((Fr.refl _ _).drew.trans hf1)).mono ?_; rintro e w2 ⟨n, rfl, hR⟩)
          go_ret
          exact .inr ⟨⟨i, HE.out⟩, hR⟩
        · rw [if_pos (by simpa using hw)] at hE
          have hw1 : (r.o.weak == weak) = false := by simp [hw]
          have HE := Lib.hid hE
          clear hE hdo hw
          go_enter Try.func39, Try.ntmps39
          go_wp2_with fail
          go_region_held3 (fun w' => w'.cell? ⟨g, 5, none⟩ = some (.slice (some ⟨b, o, none⟩) x.m.ros.length x.m.c) ∧ w'.cell? ⟨g, 6, none⟩ = some (.slice x.m.Q x.m.qs.length x.m.qc) ∧ w'.cell? ⟨g, 7 + reg.toNat, none⟩ = some (.int .i64 v)) (first | go_keep | exact ⟨k1, k2, k3⟩) ((go_at_call 26; refine (Hat.out _ ((Fr.refl _ _).drew)).mono ?_; rintro e w1 ⟨rfl, hf1⟩; have k1 := (hf1.cell (p := ⟨g, 5, none⟩) hgl (fun x => x)).trans c5; have k2 := (hf1.cell (p := ⟨g, 6, none⟩) hgl (fun x => x)).trans c6; have k3 := (hf1.cell (p := ⟨g, 7 + reg.toNat, none⟩) hgl (fun x => x)).trans c3))
          have e7 := (hf1.cell (p := ⟨b, o + i * 8 + 7, none⟩) hbl (fun x => x)).trans d7
          have e3 := (hf1.cell (p := ⟨b, o + i * 8 + 3, none⟩) hbl (fun x => x)).trans d3
          go_wp2
          go_ret
          exact .inl ⟨144, HE.out, rfl, (Fr.refl _ _).drew.trans hf1⟩

/-- What field leaves: there is no such field, or it was done. -/
def Fld (i : Int) (ln : Nat) (w : World) (R : World → Prop) (e : Ending) (w' : World) : Prop := ∃ n, e = .returned (.int .i64 n) ∧ ((i ≥ ln ∧ n = 71 ∧ Fr No w w') ∨ (i < ln ∧ n = 0 ∧ R w'))

set_option maxHeartbeats 1000000 in
theorem field_calls (g : Nat) (x : DX) (w : World) (h : Whole w g 59 x.cells) (h0 : 0 ≤ x.d.i) (h1 : x.d.i ≤ 7) (lA : Option Addr) (ln lc : Nat) (xs : List Value) (hrow : Row w 1 lA ln lc xs) (hn : ln ≤ Cap)
    (fid : FuncId) (caps : Array Value) (R : World → Prop) (hcf : ∀ (args : Array Value) (W : World), (callFunc fid args).run Try.prog W = .ok (.enter fid args) W)
    (hdo : ∀ b o W, x.d.i < ln → lA = some ⟨b, o, none⟩ → Fr No w W → Calls Try.prog fid (#[.pointer (some ⟨b, o + x.d.i.toNat, none⟩)] ++ caps) W fun e w' => e = .returned (.tuple #[]) ∧ R w') :
    Calls Try.prog 41 #[.pointer (some ⟨g, 0, none⟩), .slice lA ln lc, .func (.func fid) #[] caps] w
      (Fld x.d.i ln w R) := by
  have hlen : ln ≤ 9223372036854775807 := by have := cap_lt hn; omega
  have c3 : w.cell? ⟨g, 3, none⟩ = some (.int .i64 x.d.i) := h.cell 3
  clear h hn
  generalize x.d.i = i at *
  by_cases hi : i < ln
  · obtain ⟨b, o, rfl, hb, -⟩ := hrow.2.2 (by omega)
    have Hdo : Hid (∀ W, Fr No w W → Calls Try.prog fid (#[.pointer (some ⟨b, o + i.toNat, none⟩)] ++ caps) W fun e w' => e = .returned (.tuple #[]) ∧ R w') := Lib.hid (fun W hW => hdo b o W hi rfl hW)
    clear hdo hrow
    go_enter Try.func41, Try.ntmps41
    go_wp2_with (refine (Hdo.out _ (Fr.refl _ _)).mono ?_; rintro e w2 ⟨rfl, hR⟩)
    go_ret
    unfold Fld
    exact ⟨0, rfl, .inr ⟨hi, rfl, hR⟩⟩
  · clear hdo hrow
    go_enter Try.func41, Try.ntmps41
    go_wp2
    go_ret
    unfold Fld
    exact ⟨71, rfl, .inl ⟨by omega, rfl, Fr.refl _ _⟩⟩
end Go.Proofs.Ytbjknkgefpeohaa
