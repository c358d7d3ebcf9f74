/- Contract of do: whatever deed is right. Conditions: right deeds, lists shorter than 2^40. -/
import Derived.Test.YtbjknkgefpeohaaDoB
import Derived.Test.YtbjknkgefpeohaaDoC
import Derived.Test.YtbjknkgefpeohaaDoD
import Derived.Test.YtbjknkgefpeohaaDoE
namespace Go.Proofs.Ytbjknkgefpeohaa
open Go.RowKit
attribute [local go_sem ↓] Go.wp_at_zero Go.wp_at_succ

/-- What a deed comes to. -/
def deedP (d : PDeed) (m : PModel) (r : List Int) (f s : Int) : Out :=
  if d.kind = 1 ∨ d.kind = 2 then layP m r d.a f ⟨0, d.i, d.n, false, decide (d.kind = 2), List.replicate d.i.toNat 0, List.replicate d.n.toNat 0, false⟩
  else if d.kind = 3 then weakP m r d.a f (r.getD d.b.toNat 0)
  else if d.kind = 4 then fieldP m.objs (r.getD d.b.toNat 0) false d.i (fun o => o.ptrs.length) fun _ o => (m, r.set d.a.toNat (o.ptrs.getD d.i.toNat 0), o.ptrs.getD d.i.toNat 0)
  else if d.kind = 9 then fieldP m.objs (r.getD d.b.toNat 0) true d.i (fun o => o.ptrs.length) fun _ o => (m, r.set d.a.toNat (o.ptrs.getD d.i.toNat 0), o.ptrs.getD d.i.toNat 0)
  else if d.kind = 10 then .inr (takeP m r d.a s)
  else if d.kind = 5 then fieldP m.objs (r.getD d.a.toNat 0) false d.i (fun o => o.ptrs.length) fun j o => (⟨m.objs.set j { o with ptrs := o.ptrs.set d.i.toNat (r.getD d.b.toNat 0) }, m.queue⟩, r, 0)
  else if d.kind = 6 then fieldP m.objs (r.getD d.a.toNat 0) false d.i (fun o => o.nums.length) fun _ o => (m, r, o.nums.getD d.i.toNat 0)
  else if d.kind = 7 then fieldP m.objs (r.getD d.a.toNat 0) false d.i (fun o => o.nums.length) fun j o => (⟨m.objs.set j { o with nums := o.nums.set d.i.toNat d.n }, m.queue⟩, r, 0)
  else if d.kind = 8 then freeP m r (r.getD d.a.toNat 0)
  else if d.kind = 11 then .inr (m, r, if r.getD d.a.toNat 0 = r.getD d.b.toNat 0 then 1 else 0)
  else if d.kind = 12 then .inr (m, r.set d.a.toNat (r.getD d.b.toNat 0), 0)
  else if d.kind = 13 then .inr (m, r.set d.a.toNat 0, 0)
  else .inr (m, r, 0)


set_option maxHeartbeats 1000000 in
theorem do_abort (g B : Nat) (x : DX) (w : World) (h : St w g B x) (hk : x.d.kind = 14) :
    Calls Try.prog 21 #[.pointer (some ⟨g, 0, none⟩)] w (DoneO g B (.inr (x.m.pure, x.r, 0)) w) := by
  have c0 : w.cell? ⟨g, 0, none⟩ = some (.int .i64 14) := hk ▸ h.whole.cell 0
  have hgl := h.whole.lt
  generalize hPost : DoneO g B (.inr (x.m.pure, x.r, 0)) w = Post
  have hP : ∀ w', Fr No w w' → Post (.returned (.int .i64 0)) w' := fun w' hW => by
    rw [← hPost]
    exact done_own (x' := x) h (fr_no hW) (hW.whole h.whole (fun x => x)) rfl (by rw [h.told])
  have HP := Lib.hid hP
  clear hP hPost h hk
  go_enter Try.func21, Try.ntmps21
  go_wp2_with fail
  exact HP.out _ (((Fr.refl _ _).alloc _).alloc _)

/-- What a right deed's parts are. -/
theorem right_kind {d : PDeed} (h : rightP d = true) : d.kind = 1 ∨ d.kind = 2 ∨ d.kind = 3 ∨ d.kind = 4 ∨ d.kind = 5 ∨ d.kind = 6 ∨ d.kind = 7 ∨ d.kind = 8 ∨ d.kind = 9 ∨ d.kind = 10 ∨ d.kind = 11 ∨ d.kind = 12 ∨ d.kind = 13 ∨ d.kind = 14 := by
  unfold rightP at h
  simp only [Bool.and_eq_true, decide_eq_true_eq] at h
  have hw := h.2.1
  unfold wordOf at hw
  refine Classical.byContradiction fun hn => hw ?_
  iterate 14 (rw [if_neg (by omega)])
theorem right_fits {d : PDeed} (h : rightP d = true) : ∀ p ∈ partsOf d.kind, p.lo ≤ d.get p.k ∧ d.get p.k ≤ p.hi := by
  unfold rightP at h
  simp only [Bool.and_eq_true, List.all_eq_true, decide_eq_true_eq] at h
  exact h.1
theorem right_only {d : PDeed} (h : rightP d = true) : onlyOf d (partsOf d.kind) = d := by
  unfold rightP at h
  simp only [Bool.and_eq_true, List.all_eq_true, decide_eq_true_eq] at h
  exact h.2.2
theorem right_load {d : PDeed} (h : rightP d = true) (hk : d.kind = 9) : d.i = 0 := by
  have := right_only h
  rw [hk] at this
  rw [← this]
  rfl

theorem do_calls (g B : Nat) (x : DX) (w : World) (h : St w g B x) (hr : rightP x.d = true) :
    Calls Try.prog 21 #[.pointer (some ⟨g, 0, none⟩)] w (DoneO g B (deedP x.d x.m.pure x.r x.f x.s) w) := by
  have hf := right_fits hr
  rcases right_kind hr with hk | hk | hk | hk | hk | hk | hk | hk | hk | hk | hk | hk | hk | hk <;>
    rw [hk] at hf <;> simp [partsOf, pA, pB, pI, pS, pT, pN, PDeed.get] at hf <;> unfold deedP <;> simp only [hk]
  · exact do_alloc g B x w h hk hf.1.1 hf.1.2 hf.2.1.1 hf.2.1.2 hf.2.2.1 hf.2.2.2
  · exact do_final g B x w h hk hf.1.1 hf.1.2 hf.2.1.1 hf.2.1.2 hf.2.2.1 hf.2.2.2
  · exact do_weak g B x w h hk hf.1.1 hf.1.2 hf.2.1 hf.2.2
  · exact do_get g B x w h hk hf.1.1 hf.1.2 hf.2.1.1 hf.2.1.2 hf.2.2.1 hf.2.2.2
  · exact do_put g B x w h hk hf.1.1 hf.1.2 hf.2.2.1 hf.2.2.2 hf.2.1.1 hf.2.1.2
  · exact do_read g B x w h hk hf.1.1 hf.1.2 hf.2.1 hf.2.2
  · exact do_write g B x w h hk hf.1.1 hf.1.2 hf.2.1.1 hf.2.1.2
  · exact do_free g B x w h hk hf.1 hf.2
  · have hi := right_load hr hk
    exact do_load g B x w h hk hf.1.1 hf.1.2 hf.2.1 hf.2.2 (by omega) (by omega)
  · exact do_take g B x w h hk hf.1 hf.2
  · exact do_same g B x w h hk hf.1.1 hf.1.2 hf.2.1 hf.2.2
  · exact do_move g B x w h hk hf.1.1 hf.1.2 hf.2.1 hf.2.2
  · exact do_nil g B x w h hk hf.1 hf.2
  · exact do_abort g B x w h hk
end Go.Proofs.Ytbjknkgefpeohaa
