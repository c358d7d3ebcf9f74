/- Contract of do: registers that are compared, or let be something. Conditions: right deeds, lists shorter than 2^40. -/
import Derived.Test.YtbjknkgefpeohaaDoA
import Derived.BigRegion
namespace Go.Proofs.Ytbjknkgefpeohaa
open Go.RowKit
attribute [local go_sem ↓] Go.wp_at_zero Go.wp_at_succ

/-- Registers alone are changed, or what is told. -/
theorem done_own {g B : Nat} {x x' : DX} {O : Out} {w w' : World} (h : St w g B x) (hf : Fr (Only g) w w') (hw : Whole w' g 59 x'.cells) (hm : x'.m = x.m) (hO : O = .inr (x'.m.pure, x'.r, x'.t)) : DoneO g B O w (.returned (.int .i64 0)) w' := by
  have hm' : x.m.Own w' B := h.own.far hf (fun k hk e => h.apart (by have e' : k = g := e; exact e' ▸ hk)) (fun k hk e => h.qapart (by have e' : k = g := e; exact e' ▸ hk))
  exact ⟨hf.mono (fun k _ hk => by have hk' : k = g := hk; have := h.base; omega), .inr ⟨x', hO, rfl, hw, hm ▸ hm'.ok, hm ▸ hm'.up⟩⟩

set_option maxRecDepth 4000 in
set_option maxHeartbeats 1000000 in
theorem do_same (g B : Nat) (x : DX) (w : World) (h : St w g B x) (hk : x.d.kind = 11) (h0 : 0 ≤ x.d.a) (h1 : x.d.a ≤ 5) (q0 : 0 ≤ x.d.b) (q1 : x.d.b ≤ 5) :
    Calls Try.prog 21 #[.pointer (some ⟨g, 0, none⟩)] w (DoneO g B (.inr (x.m.pure, x.r, if x.r.getD x.d.a.toNat 0 = x.r.getD x.d.b.toNat 0 then 1 else 0)) w) := by
  have c0 : w.cell? ⟨g, 0, none⟩ = some (.int .i64 11) := hk ▸ h.whole.cell 0
  have c1 : w.cell? ⟨g, 1, none⟩ = some (.int .i64 x.d.a) := h.whole.cell 1
  have c2 : w.cell? ⟨g, 2, none⟩ = some (.int .i64 x.d.b) := h.whole.cell 2
  have ca : w.cell? ⟨g, 7 + x.d.a.toNat, none⟩ = some (.int .i64 (x.r.getD x.d.a.toNat 0)) := (h.whole.cell _).trans (DX.reg h0 h1)
  have cb : w.cell? ⟨g, 7 + x.d.b.toNat, none⟩ = some (.int .i64 (x.r.getD x.d.b.toNat 0)) := (h.whole.cell _).trans (DX.reg q0 q1)
  have ct : w.cell? ⟨g, 15, none⟩ = some (.int .i64 x.t) := h.whole.cell 15
  have zt := h.whole.frozen 15
  have hgl := h.whole.lt
  have ha6 : x.d.a < 6 := by omega
  have hb6 : x.d.b < 6 := by omega
  generalize hPost : DoneO g B (.inr (x.m.pure, x.r, if x.r.getD x.d.a.toNat 0 = x.r.getD x.d.b.toNat 0 then 1 else 0)) w = Post
  by_cases he : x.r.getD x.d.a.toNat 0 = x.r.getD x.d.b.toNat 0
  · have hP : ∀ w' W, Fr No w W → PutAt W w' g 15 (.int .i64 1) → Post (.returned (.int .i64 0)) w' := fun w' W hW hp => by
      rw [if_pos he] at hPost
      rw [← hPost]
      have hw := hW.whole h.whole (fun x => x)
      exact done_own (x' := { x with t := 1 }) h ((fr_no hW).trans hp.1) (((DX.set_told x 1) ▸ hw.set 15 (.int .i64 1)).congr hp.2) rfl rfl
    have HP := Lib.hid hP
    have hF := ((Fr.refl No w).alloc (.cells #[.pointer (some ⟨g, 0, none⟩)] 57)).alloc (.cells #[.func (.func 34) #[] #[.pointer (some ⟨w.heap.size, 0, none⟩)]] 86)
    have HF := Lib.hid hF
    have he' : (x.r.getD x.d.a.toNat 0 == x.r.getD x.d.b.toNat 0) = true := by simpa using he
    clear hP hPost h hk he hF
    generalize x.r.getD x.d.a.toNat 0 = ra at *
    generalize x.r.getD x.d.b.toNat 0 = rb at *
    generalize x.d.a = a at *
    generalize x.d.b = b at *
    go_enter Try.func21, Try.ntmps21
    go_wp2_with fail
    go_quiet (fail)
    go_wp2
    exact HP.out _ _ (HF.out.drewN _) (PutAt.mk _ _ _ _)
  · have hP : ∀ w', Fr No w w' → Post (.returned (.int .i64 0)) w' := fun w' hW => by
      rw [if_neg he] at hPost
      rw [← hPost]
      exact done_own (x' := x) h (fr_no hW) (hW.whole h.whole (fun x => x)) rfl (by rw [h.told])
    have HP := Lib.hid hP
    have hF := ((Fr.refl No w).alloc (.cells #[.pointer (some ⟨g, 0, none⟩)] 57)).alloc (.cells #[.func (.func 34) #[] #[.pointer (some ⟨w.heap.size, 0, none⟩)]] 86)
    have HF := Lib.hid hF
    have he' : (x.r.getD x.d.a.toNat 0 == x.r.getD x.d.b.toNat 0) = false := by simpa using he
    clear hP hPost h hk he hF ct zt
    generalize x.r.getD x.d.a.toNat 0 = ra at *
    generalize x.r.getD x.d.b.toNat 0 = rb at *
    generalize x.d.a = a at *
    generalize x.d.b = b at *
    go_enter Try.func21, Try.ntmps21
    go_wp2_with fail
    go_quiet (fail)
    go_wp2
    exact HP.out _ (HF.out.drewN _)

set_option maxRecDepth 4000 in
set_option maxHeartbeats 2000000 in
theorem do_move (g B : Nat) (x : DX) (w : World) (h : St w g B x) (hk : x.d.kind = 12) (h0 : 0 ≤ x.d.a) (h1 : x.d.a ≤ 5) (q0 : 0 ≤ x.d.b) (q1 : x.d.b ≤ 5) :
    Calls Try.prog 21 #[.pointer (some ⟨g, 0, none⟩)] w (DoneO g B (.inr (x.m.pure, x.r.set x.d.a.toNat (x.r.getD x.d.b.toNat 0), 0)) w) := by
  generalize hPost : DoneO g B (.inr (x.m.pure, x.r.set x.d.a.toNat (x.r.getD x.d.b.toNat 0), 0)) w = Post
  have hP : ∀ w' W, Fr No w W → PutAt W w' g (7 + x.d.a.toNat) (.int .i64 (x.r.getD x.d.b.toNat 0)) → Post (.returned (.int .i64 0)) w' := fun w' W hW hp => by
    rw [← hPost]
    have hw := hW.whole h.whole (fun x => x)
    exact done_own (x' := { x with r := x.r.set x.d.a.toNat (x.r.getD x.d.b.toNat 0) }) h ((fr_no hW).trans hp.1) (((DX.set_reg h.six h0 h1 (x.r.getD x.d.b.toNat 0)) ▸ hw.set (7 + x.d.a.toNat) (.int .i64 (x.r.getD x.d.b.toNat 0))).congr hp.2) rfl (by rw [h.told])
  have HP := Lib.hid hP
  have hF := ((Fr.refl No w).alloc (.cells #[.pointer (some ⟨g, 0, none⟩)] 57)).alloc (.cells #[.func (.func 34) #[] #[.pointer (some ⟨w.heap.size, 0, none⟩)]] 86)
  have hX : Whole ((w.alloc (.cells #[.pointer (some ⟨g, 0, none⟩)] 57)).alloc (.cells #[.func (.func 34) #[] #[.pointer (some ⟨w.heap.size, 0, none⟩)]] 86)) w.heap.size 57 [.pointer (some ⟨g, 0, none⟩)] := (Whole.new w _ [_]).alloc _
  have hS := h.no hF
  have HF := Lib.hid (show Fr No w _ ∧ St _ g B x ∧ Whole _ w.heap.size 57 _ from ⟨hF, hS, hX⟩)
  have c0 : w.cell? ⟨g, 0, none⟩ = some (.int .i64 12) := hk ▸ h.whole.cell 0
  have ha6 : x.d.a < 6 := by omega
  have hb6 : x.d.b < 6 := by omega
  have hgl := h.whole.lt
  clear hP hPost h hk hF hX hS
  go_enter Try.func21, Try.ntmps21
  go_wp2_with fail
  refine gen_world _ (fun W => Fr No w W ∧ St W g B x ∧ Whole W w.heap.size 57 [.pointer (some ⟨g, 0, none⟩)]) HF.out ?_
  clear HF c0
  rintro W ⟨hF, hS, hX⟩
  have cx : W.cell? ⟨w.heap.size, 0, none⟩ = some (.pointer (some ⟨g, 0, none⟩)) := hX.cell 0
  have c1 : W.cell? ⟨g, 1, none⟩ = some (.int .i64 x.d.a) := hS.whole.cell 1
  have ca : W.cell? ⟨g, 7 + x.d.a.toNat, none⟩ = some (.int .i64 (x.r.getD x.d.a.toNat 0)) := (hS.whole.cell _).trans (DX.reg h0 h1)
  have za := hS.whole.frozen (7 + x.d.a.toNat)
  have c2 : W.cell? ⟨g, 2, none⟩ = some (.int .i64 x.d.b) := hS.whole.cell 2
  have cb : W.cell? ⟨g, 7 + x.d.b.toNat, none⟩ = some (.int .i64 (x.r.getD x.d.b.toNat 0)) := (hS.whole.cell _).trans (DX.reg q0 q1)
  generalize x.r.getD x.d.b.toNat 0 = rb at *
  generalize x.d.b = b at *
  clear hS hX
  generalize x.r.getD x.d.a.toNat 0 = ra at *
  generalize x.d.a = a at *
  go_region
  all_goals go_wp2
  all_goals exact HP.out _ _ hF (PutAt.mk _ _ _ _).drew

set_option maxRecDepth 4000 in
set_option maxHeartbeats 2000000 in
theorem do_nil (g B : Nat) (x : DX) (w : World) (h : St w g B x) (hk : x.d.kind = 13) (h0 : 0 ≤ x.d.a) (h1 : x.d.a ≤ 5) :
    Calls Try.prog 21 #[.pointer (some ⟨g, 0, none⟩)] w (DoneO g B (.inr (x.m.pure, x.r.set x.d.a.toNat 0, 0)) w) := by
  generalize hPost : DoneO g B (.inr (x.m.pure, x.r.set x.d.a.toNat 0, 0)) w = Post
  have hP : ∀ w' W, Fr No w W → PutAt W w' g (7 + x.d.a.toNat) (.int .i64 0) → Post (.returned (.int .i64 0)) w' := fun w' W hW hp => by
    rw [← hPost]
    have hw := hW.whole h.whole (fun x => x)
    exact done_own (x' := { x with r := x.r.set x.d.a.toNat 0 }) h ((fr_no hW).trans hp.1) (((DX.set_reg h.six h0 h1 0) ▸ hw.set (7 + x.d.a.toNat) (.int .i64 0)).congr hp.2) rfl (by rw [h.told])
  have HP := Lib.hid hP
  have hF := ((Fr.refl No w).alloc (.cells #[.pointer (some ⟨g, 0, none⟩)] 57)).alloc (.cells #[.func (.func 34) #[] #[.pointer (some ⟨w.heap.size, 0, none⟩)]] 86)
  have hX : Whole ((w.alloc (.cells #[.pointer (some ⟨g, 0, none⟩)] 57)).alloc (.cells #[.func (.func 34) #[] #[.pointer (some ⟨w.heap.size, 0, none⟩)]] 86)) w.heap.size 57 [.pointer (some ⟨g, 0, none⟩)] := (Whole.new w _ [_]).alloc _
  have hS := h.no hF
  have HF := Lib.hid (show Fr No w _ ∧ St _ g B x ∧ Whole _ w.heap.size 57 _ from ⟨hF, hS, hX⟩)
  have c0 : w.cell? ⟨g, 0, none⟩ = some (.int .i64 13) := hk ▸ h.whole.cell 0
  have ha6 : x.d.a < 6 := by omega
  have hgl := h.whole.lt
  clear hP hPost h hk hF hX hS
  go_enter Try.func21, Try.ntmps21
  go_wp2_with fail
  refine gen_world _ (fun W => Fr No w W ∧ St W g B x ∧ Whole W w.heap.size 57 [.pointer (some ⟨g, 0, none⟩)]) HF.out ?_
  clear HF c0
  rintro W ⟨hF, hS, hX⟩
  have cx : W.cell? ⟨w.heap.size, 0, none⟩ = some (.pointer (some ⟨g, 0, none⟩)) := hX.cell 0
  have c1 : W.cell? ⟨g, 1, none⟩ = some (.int .i64 x.d.a) := hS.whole.cell 1
  have ca : W.cell? ⟨g, 7 + x.d.a.toNat, none⟩ = some (.int .i64 (x.r.getD x.d.a.toNat 0)) := (hS.whole.cell _).trans (DX.reg h0 h1)
  have za := hS.whole.frozen (7 + x.d.a.toNat)
  clear hS hX
  generalize x.r.getD x.d.a.toNat 0 = ra at *
  generalize x.d.a = a at *
  go_region
  all_goals go_wp2
  all_goals exact HP.out _ _ hF (PutAt.mk _ _ _ _).drew
end Go.Proofs.Ytbjknkgefpeohaa
