/- ModelOrder answers true: writes to unlike objects, or unlike fields, may come in either order. Conditions: numbers of 64 bits. -/
import Derived.Test.YtbjknkgefpeohaaDoWr
import Derived.Test.YtbjknkgefpeohaaFreed
import Derived.BigQuiet
import Derived.Deep.Cut
import Derived.Deep.CutRange
namespace Go.Proofs.Ytbjknkgefpeohaa
open Go.RowKit
attribute [local go_sem ↓] Go.wp_at_zero Go.wp_at_succ

/-- One of two deeds' kinds, by a raw number. -/
def kindW (x : Int) : Int := if pickZ x 2 = 0 then 7 else 5
/-- A deed that writes, or puts, of a raw one. -/
def wrD (d : PDeed) : PDeed := fitP ⟨kindW d.kind - 1, (fitP d).a, (fitP d).b, (fitP d).i, (fitP d).n⟩
theorem kindW_two (x : Int) : kindW x = 7 ∨ kindW x = 5 := by unfold kindW; split <;> simp
theorem wrD_kind (d : PDeed) : (wrD d).kind = kindW d.kind := by
  unfold wrD fitP
  dsimp only
  rcases kindW_two d.kind with h | h <;> rw [h] <;> decide
theorem wrD_right (d : PDeed) : rightP (wrD d) = true := fit_right _
theorem fitP_i64 (d : PDeed) : (fitP d).i64 := by
  have hr := fit_right d
  have hf := right_fits hr
  have ho := right_only hr
  have hk := right_kind hr
  have key : ∀ p, -1000000 ≤ p ∧ p ≤ 1000000 → I64 p := fun p h => ⟨by omega, by omega⟩
  unfold PDeed.i64
  rcases hk with hk | hk | hk | hk | hk | hk | hk | hk | hk | hk | hk | hk | hk | hk <;> rw [hk] at hf ho <;>
    simp [partsOf, onlyOf, PDeed.set, PDeed.get, pA, pB, pI, pS, pT, pN] at hf ho <;>
    (generalize fitP d = e at *; obtain ⟨e1, e2, e3, e4, e5⟩ := e; simp at hk hf ho ⊢; unfold I64; omega)
theorem wrD_eq (d : PDeed) : fitP ⟨kindW d.kind - 1, (fitP d).a, (fitP d).b, (fitP d).i, (fitP d).n⟩ = wrD d := rfl
/-- The two kinds, in a new block. -/
theorem kind_cell {x : Int} {pn : Nat} (h : pickZ x 2 = (pn : Int)) (hp : pn < 2) (W : World) : (W.alloc (.cells #[.int .i64 7, .int .i64 5] 3)).cell? ⟨W.heap.size, pn, none⟩ = some (.int .i64 (kindW x)) := by
  have hc := (Whole.new W 3 [.int .i64 7, .int .i64 5]).cell pn
  refine hc.trans ?_
  unfold kindW
  rw [h]
  match pn, hp with
  | 0, _ => rfl
  | 1, _ => rfl

theorem kind_at {x : Int} {pn : Nat} (h : pickZ x 2 = (pn : Int)) (hp : pn < 2) : ∀ hb, ([.int .i64 7, .int .i64 5] : List Value)[pn]'hb = .int .i64 (kindW x) := by
  intro hb
  unfold kindW
  rw [h]
  match pn, hp with
  | 0, _ => rfl
  | 1, _ => rfl

set_option maxRecDepth 4000 in
set_option maxHeartbeats 40000000 in
theorem order_calls (ros : List RO) (A : Option Addr) (c : Nat) (r0 r1 r2 r3 r4 r5 : Int) (d1 d2 : PDeed) (w : World) (hl : ros.length ≤ 9223372036854775807)
    (h : Row w 8 A ros.length c (rowOf ros)) (hraw : ∀ r ∈ ros, r.raw w) (hr : ∀ x ∈ [r0, r1, r2, r3, r4, r5], I64 x) (hd1 : d1.i64) (hd2 : d2.i64) :
    Calls Try.prog 5 #[.slice A ros.length c, .agg #[.int .i64 r0, .int .i64 r1, .int .i64 r2, .int .i64 r3, .int .i64 r4, .int .i64 r5], .agg #[.int .i64 d1.kind, .int .i64 d1.a, .int .i64 d1.b, .int .i64 d1.i, .int .i64 d1.n], .agg #[.int .i64 d2.kind, .int .i64 d2.a, .int .i64 d2.b, .int .i64 d2.i, .int .i64 d2.n]] w
      fun e w' => e = .returned (.bool true) ∧ Fr No w w' := by
  have Hfit := Lib.hid fun W (hW : Fr No w W) => fit_out ros A c [] none 0 W hl (by simp) (h.no hW) (fun r hr => (hraw r hr).no hW) (Row.nil _ _ _ _) (fun q hq => by cases hq)
  clear h hraw hl
  generalize ros.length = len at *
  go_enter Try.func5, Try.ntmps5
  go_wp2_with fail
  have h5 := ((Whole.new w 24 [.int .i64 r0, .int .i64 r1, .int .i64 r2, .int .i64 r3, .int .i64 r4, .int .i64 r5]).alloc (.cells ([.int .i64 d1.kind, .int .i64 d1.a, .int .i64 d1.b, .int .i64 d1.i, .int .i64 d1.n] : List Value).toArray 26)).alloc (.cells ([.int .i64 d2.kind, .int .i64 d2.a, .int .i64 d2.b, .int .i64 d2.i, .int .i64 d2.n] : List Value).toArray 26)
  have h6 := (Whole.new1 w 26 [.int .i64 d1.kind, .int .i64 d1.a, .int .i64 d1.b, .int .i64 d1.i, .int .i64 d1.n] (.cells ([.int .i64 r0, .int .i64 r1, .int .i64 r2, .int .i64 r3, .int .i64 r4, .int .i64 r5] : List Value).toArray 24)).alloc (.cells ([.int .i64 d2.kind, .int .i64 d2.a, .int .i64 d2.b, .int .i64 d2.i, .int .i64 d2.n] : List Value).toArray 26)
  have h7 := Whole.new2 w 26 [.int .i64 d2.kind, .int .i64 d2.a, .int .i64 d2.b, .int .i64 d2.i, .int .i64 d2.n] (.cells ([.int .i64 r0, .int .i64 r1, .int .i64 r2, .int .i64 r3, .int .i64 r4, .int .i64 r5] : List Value).toArray 24) (.cells ([.int .i64 d1.kind, .int .i64 d1.a, .int .i64 d1.b, .int .i64 d1.i, .int .i64 d1.n] : List Value).toArray 26)
  refine (awake_calls _).mono ?_
  rintro e w1 ⟨rfl, hf⟩
  (replace h5 := hf.whole h5 (fun x => x))
  (replace h6 := hf.whole h6 (fun x => x))
  (replace h7 := hf.whole h7 (fun x => x))
  have hF := ((((Fr.refl No w).alloc _).alloc _).alloc _).trans hf
  clear hf
  go_wp2_with fail
  refine (Hfit.out _ hF).mono ?_
  rintro e w2 ⟨A1, n1, c1, Q1, k1, q1, m, rfl, hlk, hok, hp, hn8, hf⟩
  (replace h5 := hf.whole h5 (fun x => x))
  (replace h6 := hf.whole h6 (fun x => x))
  (replace h7 := hf.whole h7 (fun x => x))
  replace hF := hF.trans hf
  clear hf
  generalize w.heap.size = g5 at *
  generalize g5 + 1 = g6 at *
  generalize g6 + 1 = g7 at *
  have e5 := h5.cell
  have l5 := h5.lt
  go_wp2_with fail
  have hM := Whole.new w2 29 [.slice A1 n1 c1, .slice Q1 k1 q1]
  have hf : Fr No w2 (w2.alloc (.cells ([.slice A1 n1 c1, .slice Q1 k1 q1] : List Value).toArray 29)) := (Fr.refl _ _).alloc _
  replace hF := hF.trans hf
  replace hok := hok.no hf
  (replace h6 := hf.whole h6 (fun x => x))
  (replace h7 := hf.whole h7 (fun x => x))
  clear hf h5 e5 l5
  refine (regs_out r0 r1 r2 r3 r4 r5 hr hn8 _).mono ?_
  rintro e w3 ⟨s0, s1, s2, s3, s4, s5, rfl, hs, hf⟩
  (replace hM := hf.whole hM (fun x => x))
  (replace h6 := hf.whole h6 (fun x => x))
  (replace h7 := hf.whole h7 (fun x => x))
  replace hF := hF.trans hf
  replace hok := hok.no hf
  clear hf hs hr
  generalize w2.heap.size = gM at *
  have e6 := h6.cell
  have l6 := h6.lt
  go_wp2_with fail
  have hR := Whole.new w3 24 [.int .i64 s0, .int .i64 s1, .int .i64 s2, .int .i64 s3, .int .i64 s4, .int .i64 s5]
  have hf : Fr No w3 (w3.alloc (.cells ([.int .i64 s0, .int .i64 s1, .int .i64 s2, .int .i64 s3, .int .i64 s4, .int .i64 s5] : List Value).toArray 24)) := (Fr.refl _ _).alloc _
  replace hF := hF.trans hf
  replace hok := hok.no hf
  (replace hM := hf.whole hM (fun x => x))
  (replace h6 := hf.whole h6 (fun x => x))
  (replace h7 := hf.whole h7 (fun x => x))
  clear hf e6 l6
  refine (fit_15 d1 hd1 _).mono ?_
  rintro e w4 ⟨rfl, hf⟩
  (replace hM := hf.whole hM (fun x => x))
  (replace hR := hf.whole hR (fun x => x))
  (replace h6 := hf.whole h6 (fun x => x))
  (replace h7 := hf.whole h7 (fun x => x))
  replace hF := hF.trans hf
  replace hok := hok.no hf
  clear hf
  generalize w3.heap.size = gR at *
  have e7 := h7.cell
  have l7 := h7.lt
  have Hw1 := Lib.hid (wrD_eq d1)
  have Hi1 := Lib.hid (fitP_i64 d1)
  generalize fitP d1 = f1 at *
  go_wp2_with fail
  have hA := Whole.new w4 26 [.int .i64 f1.kind, .int .i64 f1.a, .int .i64 f1.b, .int .i64 f1.i, .int .i64 f1.n]
  have H := (Fr.refl No w4).alloc (.cells ([.int .i64 f1.kind, .int .i64 f1.a, .int .i64 f1.b, .int .i64 f1.i, .int .i64 f1.n] : List Value).toArray 26)
  have lowA : w.heap.size ≤ w4.heap.size := hF.size
  clear e7 l7
  refine (fit_15 d2 hd2 _).mono ?_
  rintro e w5 ⟨rfl, hf⟩
  (replace hA := hf.whole hA (fun x => x))
  replace H := H.trans hf
  clear hf
  have hgA : w4.heap.size ≤ w4.heap.size := Nat.le_refl _
  have HG := Lib.hid fun k (hk : k < w4.heap.size) => hk
  generalize hGA : w4.heap.size = gA at *
  have Hw2 := Lib.hid (wrD_eq d2)
  have Hi2 := Lib.hid (fitP_i64 d2)
  generalize fitP d2 = f2 at *
  obtain ⟨p1, hp1⟩ := Int.eq_ofNat_of_zero_le (pickZ_bd d1.kind 2 (by decide)).1
  have hp1l : p1 < 2 := by have := (pickZ_bd d1.kind 2 (by decide)).2; omega
  have Hk1 := Lib.hid fun W => hp1 ▸ pick_18 d1.kind 2 hd1.1 (by decide) (by decide) W
  have Hc1 := Lib.hid (kind_at hp1 hp1l)
  obtain ⟨p2, hp2⟩ := Int.eq_ofNat_of_zero_le (pickZ_bd d2.kind 2 (by decide)).1
  have hp2l : p2 < 2 := by have := (pickZ_bd d2.kind 2 (by decide)).2; omega
  have Hk2 := Lib.hid fun W => hp2 ▸ pick_18 d2.kind 2 hd2.1 (by decide) (by decide) W
  have Hc2 := Lib.hid (kind_at hp2 hp2l)
  have HK1 := Lib.hid (kindW_two d1.kind)
  have HK2 := Lib.hid (kindW_two d2.kind)
  have Hra1 := Lib.hid (wrD_right d1)
  have Hra2 := Lib.hid (wrD_right d2)
  have Hwk1 := Lib.hid (wrD_kind d1)
  have Hwk2 := Lib.hid (wrD_kind d2)
  have j1 : (p1 : Int) < 2 := by omega
  have j1' : (0 : Int) ≤ (p1 : Int) := by omega
  have j2 : (p2 : Int) < 2 := by omega
  have j2' : (0 : Int) ≤ (p2 : Int) := by omega
  clear hp1 hp2 hd1 hd2
  generalize kindW d1.kind = K1 at *
  generalize kindW d2.kind = K2 at *
  have e6 := (H.whole h6 (fun x => x)).cell
  have l6 := (H.whole h6 (fun x => x)).lt
  have eA := hA.cell
  have lA := hA.lt
  have zA := hA.frozen
  have hc1 := Hc1.out
  have n5A : gA ≠ w5.heap.size := by omega
  go_upto_region 7 with (go_at_call 14; refine (Hk1.out _).mono ?_; rintro e w6 ⟨rfl, hw6⟩; subst hw6)
  refine gen_world _ (fun X => Whole X gA 26 [.int .i64 K1, .int .i64 f1.a, .int .i64 f1.b, .int .i64 f1.i, .int .i64 f1.n] ∧ Whole X w5.heap.size 26 [.int .i64 f2.kind, .int .i64 f2.a, .int .i64 f2.b, .int .i64 f2.i, .int .i64 f2.n] ∧ Fr No w4 X) ⟨((hA.set 0 _).alloc _).alloc _, (by simpa using (Whole.new (w5.setCell ⟨gA, 0, none⟩ (.int .i64 K1)) 26 [.int .i64 f2.kind, .int .i64 f2.a, .int .i64 f2.b, .int .i64 f2.i, .int .i64 f2.n]).alloc (.cells #[.int .i64 7, .int .i64 5] 3)), ((H.set _ _ (Or.inr (Nat.le_of_eq hGA)) _).alloc _).alloc _⟩ ?_
  have lowB : w4.heap.size ≤ w5.heap.size := H.size
  clear hA H e6 l6 eA lA zA hc1
  generalize w5.heap.size = gB at *
  rintro X ⟨hA, hB, H⟩
  have e7 := (H.whole h7 (fun x => x)).cell
  have l7 := (H.whole h7 (fun x => x)).lt
  have eB := hB.cell
  have lB := hB.lt
  have zB := hB.frozen
  have hc2 := Hc2.out
  go_upto_region 8 with (go_at_call 14; refine (Hk2.out _).mono ?_; rintro e w6 ⟨rfl, hw6⟩; subst hw6)
  have nAB : gA ≠ gB := n5A
  refine gen_world _ (fun X' => Whole X' gA 26 [.int .i64 K1, .int .i64 f1.a, .int .i64 f1.b, .int .i64 f1.i, .int .i64 f1.n] ∧ Whole X' gB 26 [.int .i64 K2, .int .i64 f2.a, .int .i64 f2.b, .int .i64 f2.i, .int .i64 f2.n] ∧ Fr No w4 X') ⟨(hA.far (by exact nAB) _).alloc _, (hB.set 0 _).alloc _, (H.set _ _ (Or.inr lowB) _).alloc _⟩ ?_
  clear hA hB H e7 l7 eB lB zB hc2
  rintro X' ⟨hA, hB, H⟩
  have eA := hA.cell
  have lA := hA.lt
  have zA := hA.frozen
  have b1 : -1000000000 ≤ K1 - 1 ∧ K1 - 1 ≤ 1000000000 := by have := HK1.out; omega
  have b2 : -1000000000 ≤ K2 - 1 ∧ K2 - 1 ≤ 1000000000 := by have := HK2.out; omega
  have hw1 : IntKind.i64.wrap (K1 - 1) = K1 - 1 := IntWalk.i64_in _ (by omega)
  have hw2 : IntKind.i64.wrap (K2 - 1) = K2 - 1 := IntWalk.i64_in _ (by omega)
  go_wp2_with fail
  refine (fit_15 ⟨K1 - 1, f1.a, f1.b, f1.i, f1.n⟩ ⟨⟨by dsimp only; omega, by dsimp only; omega⟩, Hi1.out.2⟩ _).mono ?_
  rintro e w8 ⟨rfl, hf⟩
  (replace hA := hf.whole hA (fun x => x))
  (replace hB := hf.whole hB (fun x => x))
  replace H := H.trans hf
  clear hf eA lA zA
  rw [Hw1.out]
  generalize wrD d1 = da at *
  have eA := hA.cell
  have lA := hA.lt
  have zA := hA.frozen
  go_upto_region 9 with fail
  have lA4 : w4.heap.size ≤ gA := Nat.le_of_eq hGA
  refine gen_world _ (fun X => Whole X gA 26 [.int .i64 da.kind, .int .i64 da.a, .int .i64 da.b, .int .i64 da.i, .int .i64 da.n] ∧ Whole X gB 26 [.int .i64 K2, .int .i64 f2.a, .int .i64 f2.b, .int .i64 f2.i, .int .i64 f2.n] ∧ Fr No w4 X) ⟨((((hA.set 0 _).set 1 _).set 2 _).set 3 _).set 4 _, ((((hB.far (by exact nAB.symm) _).far (by exact nAB.symm) _).far (by exact nAB.symm) _).far (by exact nAB.symm) _).far (by exact nAB.symm) _, ((((H.set _ _ (Or.inr lA4) _).set _ _ (Or.inr lA4) _).set _ _ (Or.inr lA4) _).set _ _ (Or.inr lA4) _).set _ _ (Or.inr lA4) _⟩ ?_
  clear hA hB H eA lA zA
  rintro X2 ⟨hA, hB, H⟩
  have eB := hB.cell
  have lB := hB.lt
  go_wp2_with fail
  refine (fit_15 ⟨K2 - 1, f2.a, f2.b, f2.i, f2.n⟩ ⟨⟨by dsimp only; omega, by dsimp only; omega⟩, Hi2.out.2⟩ _).mono ?_
  rintro e w9 ⟨rfl, hf⟩
  (replace hA := hf.whole hA (fun x => x))
  (replace hB := hf.whole hB (fun x => x))
  replace H := H.trans hf
  clear hf eB lB
  rw [Hw2.out]
  generalize wrD d2 = db at *
  have eB := hB.cell
  have lB := hB.lt
  have zB := hB.frozen
  go_upto_region 10 with fail
  refine gen_world _ (fun X => Whole X gA 26 [.int .i64 da.kind, .int .i64 da.a, .int .i64 da.b, .int .i64 da.i, .int .i64 da.n] ∧ Whole X gB 26 [.int .i64 db.kind, .int .i64 db.a, .int .i64 db.b, .int .i64 db.i, .int .i64 db.n] ∧ Fr No w4 X) ⟨((((hA.far (by exact nAB) _).far (by exact nAB) _).far (by exact nAB) _).far (by exact nAB) _).far (by exact nAB) _, ((((hB.set 0 _).set 1 _).set 2 _).set 3 _).set 4 _, ((((H.set _ _ (Or.inr lowB) _).set _ _ (Or.inr lowB) _).set _ _ (Or.inr lowB) _).set _ _ (Or.inr lowB) _).set _ _ (Or.inr lowB) _⟩ ?_
  clear hA hB H eB lB zB Hw1 Hw2 Hc1 Hc2 Hk1 Hk2 Hi1 Hi2 hw1 hw2 b1 b2
  rintro X3 ⟨hA, hB, H⟩
  have hka : da.kind = 5 ∨ da.kind = 7 := by rw [Hwk1.out]; exact HK1.out.symm
  have hkb : db.kind = 5 ∨ db.kind = 7 := by rw [Hwk2.out]; exact HK2.out.symm
  have hra := Hra1.out
  have hrb := Hra2.out
  have haa := right_a hra
  have hba := right_a hrb
  have hg : Good m.pure := by rw [hp]; exact fit_good _ _
  have hia : 0 ≤ da.i ∧ 0 ≤ db.i := by
    have h1 := right_fits hra
    have h2 := right_fits hrb
    constructor
    · rcases hka with hk | hk <;> rw [hk] at h1 <;> exact (h1 pI (by simp [partsOf])).1
    · rcases hkb with hk | hk <;> rw [hk] at h2 <;> exact (h2 pI (by simp [partsOf])).1
  have hM3 := H.whole hM (fun x => x)
  have hR3 := H.whole hR (fun x => x)
  have hok3 := hok.no H
  have Hlaw := Lib.hid fun (hn : ¬ (wrX da [s0, s1, s2, s3, s4, s5] = wrX db [s0, s1, s2, s3, s4, s5] ∧ da.kind = db.kind ∧ da.i = db.i)) => order_law da db m.pure [s0, s1, s2, s3, s4, s5] hka hkb hia.1 hia.2 hn
  have He1 := Lib.hid (wrE_wr da db m.pure [s0, s1, s2, s3, s4, s5])
  have He2 := Lib.hid (wrE_wr db da m.pure [s0, s1, s2, s3, s4, s5])
  have HF := Lib.hid (hF.trans H)
  clear hp hM hR h6 h7 hok hF H Hra1 Hra2 Hwk1 Hwk2 HK1 HK2 hia j1 j1' j2 j2' hp1l hp2l
  obtain ⟨ka, aa, ab, ai, am⟩ := da
  obtain ⟨kb, ba, bb, bi, bm⟩ := db
  dsimp only at haa hba hA hB Hlaw
  obtain ⟨xa, rfl⟩ := Int.eq_ofNat_of_zero_le haa.1
  obtain ⟨xb, rfl⟩ := Int.eq_ofNat_of_zero_le hba.1
  have hxa : xa < 6 := by have := haa.2; omega
  have hxb : xb < 6 := by have := hba.2; omega
  have qa1 : (0 : Int) ≤ (xa : Int) := by omega
  have qa2 : (xa : Int) < 6 := by omega
  have qb1 : (0 : Int) ≤ (xb : Int) := by omega
  have qb2 : (xb : Int) < 6 := by omega
  have Hwa := Lib.hid (show wrX ⟨ka, (xa : Int), ab, ai, am⟩ [s0, s1, s2, s3, s4, s5] = [s0, s1, s2, s3, s4, s5].getD xa 0 from rfl)
  have Hwb := Lib.hid (show wrX ⟨kb, (xb : Int), bb, bi, bm⟩ [s0, s1, s2, s3, s4, s5] = [s0, s1, s2, s3, s4, s5].getD xb 0 from rfl)
  have kRa := (hR3.cell xa).trans (six_at s0 s1 s2 s3 s4 s5 hxa)
  have kRb := (hR3.cell xb).trans (six_at s0 s1 s2 s3 s4 s5 hxb)
  generalize hya : [s0, s1, s2, s3, s4, s5].getD xa 0 = ya at *
  generalize hyb : [s0, s1, s2, s3, s4, s5].getD xb 0 = yb at *
  clear hya hyb
  have kA1 : X3.cell? ⟨gA, 0, none⟩ = some (.int .i64 ka) := hA.cell 0
  have kA2 : X3.cell? ⟨gA, 1, none⟩ = some (.int .i64 xa) := hA.cell 1
  have kA3 : X3.cell? ⟨gA, 3, none⟩ = some (.int .i64 ai) := hA.cell 3
  have kB1 : X3.cell? ⟨gB, 0, none⟩ = some (.int .i64 kb) := hB.cell 0
  have kB2 : X3.cell? ⟨gB, 1, none⟩ = some (.int .i64 xb) := hB.cell 1
  have kB3 : X3.cell? ⟨gB, 3, none⟩ = some (.int .i64 bi) := hB.cell 3
  have lA := hA.lt
  have lB := hB.lt
  have lM := hM3.lt
  have lR := hR3.lt
  by_cases hS : ya = yb ∧ ka = kb ∧ ai = bi
  · have hy : (ya == yb) = true := by simp [hS.1]
    have hk : (ka == kb) = true := by simp [hS.2.1]
    have hi : (ai == bi) = true := by simp [hS.2.2]
    clear hS
    go_quiet (fail)
    go_wp2_with fail
    go_ret
    exact ⟨rfl, HF.out.drewN _⟩
  · have hlaw := Hlaw.out (by rw [Hwa.out, Hwb.out]; exact hS)
    have HLaw := Lib.hid hlaw
    have HS := Lib.hid hS
    clear hlaw hS Hlaw
    go_cut [102] from 80 to 102 (fun s wx => s = .bool false ∧ ∃ n, wx = X3.drewN n)
    case first =>
      by_cases hy0 : ya = yb
      · have hy : (ya == yb) = true := by simp [hy0]
        by_cases hk0 : ka = kb
        · have hk : (ka == kb) = true := by simp [hk0]
          have hi : (ai == bi) = false := by
            rw [beq_eq_false_iff_ne]
            exact fun e => HS.out ⟨hy0, hk0, e⟩
          clear hy0 hk0
          go_quiet (fail)
          go_wp2_with fail
          go_meet
          exact ⟨rfl, _, rfl⟩
        · have hk : (ka == kb) = false := by simp [hk0]
          clear hy0 hk0
          go_quiet (fail)
          go_wp2_with fail
          go_meet
          exact ⟨rfl, _, rfl⟩
      · have hy : (ya == yb) = false := by simp [hy0]
        clear hy0
        go_quiet (fail)
        go_wp2_with fail
        go_meet
        exact ⟨rfl, _, rfl⟩
    case rest =>
      obtain ⟨rfl, nd, rfl⟩ := hcut
      clear kRa kRb kA1 kA2 kA3 kB1 kB2 kB3 lA lB lM lR
      have hf0 : Fr No X3 (X3.drewN nd) := (Fr.refl _ _).drewN nd
      replace hM3 := hf0.whole hM3 (fun x => x)
      replace hR3 := hf0.whole hR3 (fun x => x)
      replace hA := hf0.whole hA (fun x => x)
      replace hB := hf0.whole hB (fun x => x)
      replace hok3 := hok3.no hf0
      have HF0 := Lib.hid (HF.out.trans hf0)
      clear hf0 HF
      have eM := hM3.cell
      have eR := hR3.cell
      have eA := hA.cell
      have lM := hM3.lt
      have lR := hR3.lt
      have lA := hA.lt
      go_wp2_with fail
      refine (do_wr hlk hg hn8 ⟨ka, xa, ab, ai, am⟩ hra hka s0 s1 s2 s3 s4 s5 0 0 _ hok3).mono ?_
      rintro e y1 ⟨A2, n2, c2, Q2, k2, q2, m2, rfl, hlk2, hok2, hp2, hn2, hg2, hf⟩
      have hN2 := (Whole.new y1 29 [.slice A2 n2 c2, .slice Q2 k2 q2]).alloc (.cells ([.int .i64 s0, .int .i64 s1, .int .i64 s2, .int .i64 s3, .int .i64 s4, .int .i64 s5] : List Value).toArray 24)
      have hf' := hf.trans (((Fr.refl No y1).alloc (.cells ([.slice A2 n2 c2, .slice Q2 k2 q2] : List Value).toArray 29)).alloc (.cells ([.int .i64 s0, .int .i64 s1, .int .i64 s2, .int .i64 s3, .int .i64 s4, .int .i64 s5] : List Value).toArray 24))
      have hB1 := hf.whole hB (fun x => x)
      have hR1 := hf.whole hR3 (fun x => x)
      clear eM eR eA lM lR lA
      have eR := hR1.cell
      have eB := hB1.cell
      have lR := hR1.lt
      have lB := hB1.lt
      generalize hE1 : wrE ⟨ka, xa, ab, ai, am⟩ m.pure [s0, s1, s2, s3, s4, s5] = E1 at *
      go_wp2_with fail
      refine (do_wr hlk2 hg2 hn2 ⟨kb, xb, bb, bi, bm⟩ hrb hkb s0 s1 s2 s3 s4 s5 0 0 _ (hok2.no (((Fr.refl _ _).alloc _).alloc _))).mono ?_
      rintro e y2 ⟨A3, n3, c3, Q3, k3, q3, m3, rfl, hlk3, hok3', hp3, hn3, hg3, hfb⟩
      have hf2 := hf'.trans hfb
      have hM2 := hf2.whole hM3 (fun x => x)
      have hR2 := hf2.whole hR3 (fun x => x)
      have hB2 := hf2.whole hB (fun x => x)
      have hok2' := hok3.no hf2
      rw [hp2, He1.out]
      clear eR eB lR lB hB1 hR1 hN2 hf
      have eM := hM2.cell
      have eR := hR2.cell
      have eB := hB2.cell
      have lM := hM2.lt
      have lR := hR2.lt
      have lB := hB2.lt
      generalize hE2 : wrE ⟨kb, xb, bb, bi, bm⟩ m.pure [s0, s1, s2, s3, s4, s5] = E2 at *
      go_wp2_with fail
      have hN3 := (Whole.new y2 29 [.slice A3 n3 c3, .slice Q3 k3 q3]).alloc (.cells ([.int .i64 s0, .int .i64 s1, .int .i64 s2, .int .i64 s3, .int .i64 s4, .int .i64 s5] : List Value).toArray 24)
      have hfc : Fr No y2 ((y2.alloc (.cells ([.slice A3 n3 c3, .slice Q3 k3 q3] : List Value).toArray 29)).alloc (.cells ([.int .i64 s0, .int .i64 s1, .int .i64 s2, .int .i64 s3, .int .i64 s4, .int .i64 s5] : List Value).toArray 24)) := ((Fr.refl _ _).alloc _).alloc _
      refine (do_wr hlk hg hn8 ⟨kb, xb, bb, bi, bm⟩ hrb hkb s0 s1 s2 s3 s4 s5 0 0 _ (hok2'.no hfc)).mono ?_
      rintro e y3 ⟨A4, n4, c4, Q4, k4, q4, m4, rfl, hlk4, hok4, hp4, hn4, hg4, hfd⟩
      have hf3 := (hf2.trans hfc).trans hfd
      have hR3' := hf3.whole hR3 (fun x => x)
      have hA3' := hf3.whole hA (fun x => x)
      replace hN3 := hfd.whole hN3 (fun x => x)
      replace hok3' := hok3'.no (hfc.trans hfd)
      clear eM eR eB lM lR lB hM2 hR2 hB2 hok2'
      rw [hE2]
      have eR := hR3'.cell
      have eA := hA3'.cell
      have lR := hR3'.lt
      have lA := hA3'.lt
      generalize y2.heap.size = gY at *
      go_wp2_with fail
      have hfe : Fr No y3 ((y3.alloc (.cells ([.slice A4 n4 c4, .slice Q4 k4 q4] : List Value).toArray 29)).alloc (.cells ([.int .i64 s0, .int .i64 s1, .int .i64 s2, .int .i64 s3, .int .i64 s4, .int .i64 s5] : List Value).toArray 24)) := ((Fr.refl _ _).alloc _).alloc _
      refine (do_wr hlk4 hg4 hn4 ⟨ka, xa, ab, ai, am⟩ hra hka s0 s1 s2 s3 s4 s5 0 0 _ (hok4.no hfe)).mono ?_
      rintro e y4 ⟨A5, n5, c5, Q5, k5, q5, m5, rfl, hlk5, hok5, hp5, hn5, hg5, hff⟩
      rw [hp4, He2.out]
      replace hN3 := (hfe.trans hff).whole hN3 (fun x => x)
      replace hok3' := hok3'.no (hfe.trans hff)
      have eN := hN3.cell
      have lN := hN3.lt
      have hdec : decide (m3.pure = m5.pure) = true := by
        rw [hp3, hp5, hp2, hp4]
        simpa using HLaw.out
      have hend := HF0.out.trans ((hf3.trans hfe).trans hff)
      have hb1 : (E1 == E1) = true := by simp
      have hb2 : (E2 == E2) = true := by simp
      clear eR eA lR lA hR3' hA3'
      go_wp2_with fail
      have hfg : Fr No y4 ((y4.alloc (.cells ([.slice A5 n5 c5, .slice Q5 k5 q5] : List Value).toArray 29)).alloc (.cells ([.int .i64 s0, .int .i64 s1, .int .i64 s2, .int .i64 s3, .int .i64 s4, .int .i64 s5] : List Value).toArray 24)) := ((Fr.refl _ _).alloc _).alloc _
      refine (same_out hlk3 hlk5 _ (hok3'.no hfg) (hok5.no hfg)).mono ?_
      rintro e y5 ⟨rfl, hfh⟩
      rw [hdec]
      go_wp2_with fail
      go_ret
      exact ⟨rfl, (hend.trans hfg).trans hfh⟩
end Go.Proofs.Ytbjknkgefpeohaa
