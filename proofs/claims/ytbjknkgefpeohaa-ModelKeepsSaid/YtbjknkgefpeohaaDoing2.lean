/- Contracts of the closures and the small methods that a deed is done by. Conditions: registers and fields in their bounds, lists shorter than 2^40. -/
import Derived.Test.YtbjknkgefpeohaaDoing
import Derived.Laws.EntriesVeiled
namespace Go.Proofs.Ytbjknkgefpeohaa
open Go.RowKit
attribute [local go_sem ↓] Go.wp_at_zero Go.wp_at_succ

/-- One cell of block b has turned. -/
def PutAt (w w' : World) (b o : Nat) (v : Value) : Prop := Fr (Only b) w w' ∧ w'.heap[b]? = (w.setCell ⟨b, o, none⟩ v).heap[b]?
theorem PutAt.mk (w : World) (b o : Nat) (v : Value) : PutAt w (w.setCell ⟨b, o, none⟩ v) b o v := ⟨(Fr.refl _ _).set _ _ (Or.inl (only_self _)) _, rfl⟩
theorem PutAt.drew {w w' : World} {b o : Nat} {v : Value} (h : PutAt w w' b o v) : PutAt w w'.drew b o v := ⟨h.1.drew, h.2⟩
theorem PutAt.drewN {w w' : World} {b o : Nat} {v : Value} (h : PutAt w w' b o v) (n : Nat) : PutAt w (w'.drewN n) b o v := ⟨h.1.drewN n, h.2⟩

set_option maxHeartbeats 1000000 in
theorem do_1 (g : Nat) (x : DX) (w : World) (h : Whole w g 59 x.cells) (hl : x.r.length = 6) (h0 : 0 ≤ x.d.a) (h1 : x.d.a ≤ 5) (cx b o : Nat) (v : Int) (hx : w.cell? ⟨cx, 0, none⟩ = some (.pointer (some ⟨g, 0, none⟩))) (hv : w.cell? ⟨b, o, none⟩ = some (.int .i64 v)) :
    Calls Try.prog 34 #[.pointer (some ⟨b, o, none⟩), .pointer (some ⟨cx, 0, none⟩)] w
      fun e w' => e = .returned (.tuple #[]) ∧ Whole w' g 59 (DX.cells { x with r := x.r.set x.d.a.toNat v, t := v }) ∧ Fr (Only g) w w' := by
  have hk := fun W (hW : Fr No w W) => tell_calls g x v W (hW.whole h (fun x => x)) hl h0 h1
  have Hk := Lib.hid hk
  clear hk h hl h0 h1
  go_enter Try.func34, Try.ntmps34
  go_wp2_with fail
  go_region_with (go_at_call 35; refine (Hk.out _ (Fr.refl _ _).drew).mono ?_; rintro e w1 ⟨rfl, hw1, hf1⟩)
  all_goals go_wp2
  all_goals go_end0
  all_goals exact ⟨rfl, hw1, (Fr.refl _ _).drew.trans hf1⟩

set_option maxHeartbeats 1000000 in
theorem do_3 (g : Nat) (x : DX) (w : World) (h : Whole w g 59 x.cells) (h0 : 0 ≤ x.d.b) (h1 : x.d.b ≤ 5) (cx b o : Nat) (v : Int) (hx : w.cell? ⟨cx, 0, none⟩ = some (.pointer (some ⟨g, 0, none⟩)))
    (hv : w.cell? ⟨b, o, none⟩ = some (.int .i64 v)) (hz : w.frozen? ⟨b, o, none⟩ = false) :
    Calls Try.prog 43 #[.pointer (some ⟨b, o, none⟩), .pointer (some ⟨cx, 0, none⟩)] w
      fun e w' => e = .returned (.tuple #[]) ∧ PutAt w w' b o (.int .i64 (x.r.getD x.d.b.toNat 0)) := by
  have c2 : w.cell? ⟨g, 2, none⟩ = some (.int .i64 x.d.b) := h.cell 2
  have c3 : w.cell? ⟨g, 7 + x.d.b.toNat, none⟩ = some (.int .i64 (x.r.getD x.d.b.toNat 0)) := (h.cell _).trans (DX.reg h0 h1)
  have hb6 : x.d.b < 6 := by omega
  clear h
  generalize x.r.getD x.d.b.toNat 0 = rv at *
  generalize x.d.b = bb at *
  go_enter Try.func43, Try.ntmps43
  go_wp2_with fail
  go_region
  all_goals go_wp2
  all_goals go_end0
  all_goals exact ⟨rfl, (PutAt.mk _ _ _ _).drew⟩

set_option maxHeartbeats 1000000 in
theorem do_4 (g : Nat) (w : World) (t : Value) (h15 : w.cell? ⟨g, 15, none⟩ = some t) (hz : w.frozen? ⟨g, 15, none⟩ = false) (cx b o : Nat) (v : Int) (hx : w.cell? ⟨cx, 0, none⟩ = some (.pointer (some ⟨g, 0, none⟩)))
    (hv : w.cell? ⟨b, o, none⟩ = some (.int .i64 v)) :
    Calls Try.prog 45 #[.pointer (some ⟨b, o, none⟩), .pointer (some ⟨cx, 0, none⟩)] w
      fun e w' => e = .returned (.tuple #[]) ∧ PutAt w w' g 15 (.int .i64 v) := by
  go_enter Try.func45, Try.ntmps45
  go_wp2_with fail
  go_region
  all_goals go_wp2
  all_goals go_end0
  all_goals exact ⟨rfl, (PutAt.mk _ _ _ _).drew⟩

set_option maxHeartbeats 1000000 in
theorem do_5 (g : Nat) (w : World) (n : Int) (h4 : w.cell? ⟨g, 4, none⟩ = some (.int .i64 n)) (cx b o : Nat) (v : Int) (hx : w.cell? ⟨cx, 0, none⟩ = some (.pointer (some ⟨g, 0, none⟩)))
    (hv : w.cell? ⟨b, o, none⟩ = some (.int .i64 v)) (hz : w.frozen? ⟨b, o, none⟩ = false) :
    Calls Try.prog 46 #[.pointer (some ⟨b, o, none⟩), .pointer (some ⟨cx, 0, none⟩)] w
      fun e w' => e = .returned (.tuple #[]) ∧ PutAt w w' b o (.int .i64 n) := by
  go_enter Try.func46, Try.ntmps46
  go_wp2
  go_end0
  exact ⟨rfl, PutAt.mk _ _ _ _⟩

set_option maxHeartbeats 1000000 in
theorem ptr_1 (g : Nat) (x : DX) (w : World) (h : Whole w g 59 x.cells) (h0 : 0 ≤ x.d.i) (h1 : x.d.i ≤ 7) (lA : Option Addr) (ln lc : Nat) (xs : List Value) (hrow : Row w 1 lA ln lc xs) (hn : ln ≤ Cap)
    (fid : FuncId) (caps : Array Value) (R : World → Prop) (hcf : ∀ (args : Array Value) (W : World), (callFunc fid args).run Try.prog W = .ok (.enter fid args) W)
    (hdo : ∀ b o W, x.d.i < ln → lA = some ⟨b, o, none⟩ → Fr No w W → Calls Try.prog fid (#[.pointer (some ⟨b, o + x.d.i.toNat, none⟩)] ++ caps) W fun e w' => e = .returned (.tuple #[]) ∧ R w')
    (cx cd bo oi : Nat) (hx : w.cell? ⟨cx, 0, none⟩ = some (.pointer (some ⟨g, 0, none⟩))) (hd : w.cell? ⟨cd, 0, none⟩ = some (.func (.func fid) #[] caps)) (hP : w.cell? ⟨bo, oi + 5, none⟩ = some (.slice lA ln lc)) :
    Calls Try.prog 56 #[.pointer (some ⟨bo, oi, none⟩), .pointer (some ⟨cx, 0, none⟩), .pointer (some ⟨cd, 0, none⟩)] w (Fld x.d.i ln w R) := by
  have hk := field_calls g x w.drew h.drew h0 h1 lA ln lc xs (hrow.no (Fr.refl _ _).drew) hn fid caps R hcf (fun b o W h1 h2 h3 => hdo b o W h1 h2 ((Fr.refl _ _).drew.trans h3))
  have Hk := Lib.hid hk
  clear hk h hrow hn hcf hdo h0 h1
  generalize x.d.i = i at *
  go_enter Try.func56, Try.ntmps56
  go_wp2_with fail
  go_region_with (go_at_call 41; refine (Hk.out).mono ?_; rintro e w1 ⟨n, rfl, hf1⟩)
  all_goals go_wp2
  all_goals go_ret
  all_goals unfold Fld
  all_goals
    refine ⟨n, rfl, ?_⟩
    rcases hf1 with ⟨q1, q2, q3⟩ | q
    · exact .inl ⟨q1, q2, (Fr.refl _ _).drew.trans q3⟩
    · exact .inr q

set_option maxHeartbeats 1000000 in
theorem num_1 (g : Nat) (x : DX) (w : World) (h : Whole w g 59 x.cells) (h0 : 0 ≤ x.d.i) (h1 : x.d.i ≤ 7) (lA : Option Addr) (ln lc : Nat) (xs : List Value) (hrow : Row w 1 lA ln lc xs) (hn : ln ≤ Cap)
    (fid : FuncId) (caps : Array Value) (R : World → Prop) (hcf : ∀ (args : Array Value) (W : World), (callFunc fid args).run Try.prog W = .ok (.enter fid args) W)
    (hdo : ∀ b o W, x.d.i < ln → lA = some ⟨b, o, none⟩ → Fr No w W → Calls Try.prog fid (#[.pointer (some ⟨b, o + x.d.i.toNat, none⟩)] ++ caps) W fun e w' => e = .returned (.tuple #[]) ∧ R w')
    (cx cd bo oi : Nat) (hx : w.cell? ⟨cx, 0, none⟩ = some (.pointer (some ⟨g, 0, none⟩))) (hd : w.cell? ⟨cd, 0, none⟩ = some (.func (.func fid) #[] caps)) (hP : w.cell? ⟨bo, oi + 6, none⟩ = some (.slice lA ln lc)) :
    Calls Try.prog 57 #[.pointer (some ⟨bo, oi, none⟩), .pointer (some ⟨cx, 0, none⟩), .pointer (some ⟨cd, 0, none⟩)] w (Fld x.d.i ln w R) := by
  have hk := field_calls g x w.drew h.drew h0 h1 lA ln lc xs (hrow.no (Fr.refl _ _).drew) hn fid caps R hcf (fun b o W h1 h2 h3 => hdo b o W h1 h2 ((Fr.refl _ _).drew.trans h3))
  have Hk := Lib.hid hk
  clear hk h hrow hn hcf hdo h0 h1
  generalize x.d.i = i at *
  go_enter Try.func57, Try.ntmps57
  go_wp2_with fail
  go_region_with (go_at_call 41; refine (Hk.out).mono ?_; rintro e w1 ⟨n, rfl, hf1⟩)
  all_goals go_wp2
  all_goals go_ret
  all_goals unfold Fld
  all_goals
    refine ⟨n, rfl, ?_⟩
    rcases hf1 with ⟨q1, q2, q3⟩ | q
    · exact .inl ⟨q1, q2, (Fr.refl _ _).drew.trans q3⟩
    · exact .inr q

set_option maxHeartbeats 1000000 in
theorem do_2 (g : Nat) (x : DX) (w : World) (h : Whole w g 59 x.cells) (h0 : 0 ≤ x.d.i) (h1 : x.d.i ≤ 7) (lA : Option Addr) (ln lc : Nat) (xs : List Value) (hrow : Row w 1 lA ln lc xs) (hn : ln ≤ Cap)
    (fid : FuncId) (caps : Array Value) (R : World → Prop) (hcf : ∀ (args : Array Value) (W : World), (callFunc fid args).run Try.prog W = .ok (.enter fid args) W)
    (hdo : ∀ b o W, x.d.i < ln → lA = some ⟨b, o, none⟩ → Fr No w W → Calls Try.prog fid (#[.pointer (some ⟨b, o + x.d.i.toNat, none⟩)] ++ caps) W fun e w' => e = .returned (.tuple #[]) ∧ R w')
    (cx cd bo oi : Nat) (hx : w.cell? ⟨cx, 0, none⟩ = some (.pointer (some ⟨g, 0, none⟩))) (hd : w.cell? ⟨cd, 0, none⟩ = some (.func (.func fid) #[] caps)) (hP : w.cell? ⟨bo, oi + 5, none⟩ = some (.slice lA ln lc)) :
    Calls Try.prog 40 #[.pointer (some ⟨bo, oi, none⟩), .pointer (some ⟨cx, 0, none⟩), .pointer (some ⟨cd, 0, none⟩)] w (Fld x.d.i ln w R) := by
  have hk := field_calls g x w.drew h.drew h0 h1 lA ln lc xs (hrow.no (Fr.refl _ _).drew) hn fid caps R hcf (fun b o W h1 h2 h3 => hdo b o W h1 h2 ((Fr.refl _ _).drew.trans h3))
  have Hk := Lib.hid hk
  clear hk h hrow hn hcf hdo h0 h1
  generalize x.d.i = i at *
  go_enter Try.func40, Try.ntmps40
  go_wp2_with fail
  go_region_with (go_at_call 41; refine (Hk.out).mono ?_; rintro e w1 ⟨n, rfl, hf1⟩)
  all_goals go_wp2
  all_goals go_ret
  all_goals unfold Fld
  all_goals
    refine ⟨n, rfl, ?_⟩
    rcases hf1 with ⟨q1, q2, q3⟩ | q
    · exact .inl ⟨q1, q2, (Fr.refl _ _).drew.trans q3⟩
    · exact .inr q
end Go.Proofs.Ytbjknkgefpeohaa
