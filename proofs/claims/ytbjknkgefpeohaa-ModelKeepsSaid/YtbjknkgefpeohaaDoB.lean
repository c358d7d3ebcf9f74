/- Contract of do: numbers that are put, read or written. Conditions: right deeds, lists shorter than 2^40. -/
import Derived.Test.YtbjknkgefpeohaaDoA
namespace Go.Proofs.Ytbjknkgefpeohaa
open Go.RowKit
attribute [local go_sem ↓] Go.wp_at_zero Go.wp_at_succ

set_option maxHeartbeats 1000000 in
theorem do_read (g B : Nat) (x : DX) (w : World) (h : St w g B x) (hk : x.d.kind = 6) (h0 : 0 ≤ x.d.a) (h1 : x.d.a ≤ 5) (i0 : 0 ≤ x.d.i) (i1 : x.d.i ≤ 7) :
    Calls Try.prog 21 #[.pointer (some ⟨g, 0, none⟩)] w (DoneO g B (fieldP x.m.pure.objs (x.r.getD x.d.a.toNat 0) false x.d.i (fun o => o.nums.length) fun _ o => (x.m.pure, x.r, o.nums.getD x.d.i.toNat 0)) w) := by
  have c0 : w.cell? ⟨g, 0, none⟩ = some (.int .i64 6) := hk ▸ h.whole.cell 0
  have hgl := h.whole.lt
  have hcfc : ∀ (args : Array Value) (W : World), (callFunc 45 args).run Try.prog W = .ok (.enter 45 args) W := fun args W => by kernel_rfl
  generalize hO : (fieldP x.m.pure.objs (x.r.getD x.d.a.toNat 0) false x.d.i (fun o => o.nums.length) fun _ o => (x.m.pure, x.r, o.nums.getD x.d.i.toNat 0)) = O
  have hsub : ∀ W cx, Fr No w W → W.cell? ⟨cx, 0, none⟩ = some (.pointer (some ⟨g, 0, none⟩)) → Calls Try.prog 44 #[.pointer (some ⟨g, 0, none⟩), .func (.func 45) #[] #[.pointer (some ⟨cx, 0, none⟩)]] W fun e w' => ∃ n, e = .returned (.int .i64 n) ∧ DoneO g B O w e w' := fun W cx hW hcx => by
    have hS := h.no hW
    have hcl := World.block_lt_of_cell? W _ hcx
    subst hO
    refine (num_calls g x W hS.whole hS.own.ok.row hS.own.ok.objs hS.own.ok.nobjs i0 i1 h0 h1 _ _ (ReadR g x W) hcfc ?_).mono (fun e w' hq => (by have hd := done_read hS hq; obtain ⟨n, hn⟩ := done_ret hd; exact ⟨n, hn, (fr_no hW).trans hd.1, hd.2⟩))
    intro i r b o c V _ hr hi hP hV
    have hSV := hS.no hV
    obtain ⟨v, hv, e1, _⟩ := num_at hSV.own hr hP (j := x.d.i.toNat) (by omega)
    refine (do_4 g V (.int .i64 x.t) (hSV.whole.cell 15) (hSV.whole.frozen 15) cx b (o + x.d.i.toNat) v ((hV.cell hcl (fun x => x)).trans hcx) e1).mono ?_
    rintro e w' ⟨rfl, hp⟩
    exact ⟨rfl, v, V, hv, hV, hp⟩
  have Hsub := Lib.hid hsub
  clear hsub h hk hcfc hO
  generalize DoneO g B O w = Post at *
  go_enter Try.func21, Try.ntmps21
  go_wp2_with fail
  refine (Hsub.out _ _ (((Fr.refl _ _).alloc _).alloc _) (((Whole.new w 57 [.pointer (some ⟨g, 0, none⟩)]).alloc _).cell 0)).mono ?_
  rintro e w1 ⟨n, rfl, hq⟩
  go_wp2
  exact hq

set_option maxHeartbeats 1000000 in
theorem do_write (g B : Nat) (x : DX) (w : World) (h : St w g B x) (hk : x.d.kind = 7) (h0 : 0 ≤ x.d.a) (h1 : x.d.a ≤ 5) (i0 : 0 ≤ x.d.i) (i1 : x.d.i ≤ 7) :
    Calls Try.prog 21 #[.pointer (some ⟨g, 0, none⟩)] w (DoneO g B (fieldP x.m.pure.objs (x.r.getD x.d.a.toNat 0) false x.d.i (fun o => o.nums.length) fun j o => (⟨x.m.pure.objs.set j { o with nums := o.nums.set x.d.i.toNat x.d.n }, x.m.pure.queue⟩, x.r, 0)) w) := by
  have c0 : w.cell? ⟨g, 0, none⟩ = some (.int .i64 7) := hk ▸ h.whole.cell 0
  have hgl := h.whole.lt
  have hcfc : ∀ (args : Array Value) (W : World), (callFunc 46 args).run Try.prog W = .ok (.enter 46 args) W := fun args W => by kernel_rfl
  generalize hO : (fieldP x.m.pure.objs (x.r.getD x.d.a.toNat 0) false x.d.i (fun o => o.nums.length) fun j o => (⟨x.m.pure.objs.set j { o with nums := o.nums.set x.d.i.toNat x.d.n }, x.m.pure.queue⟩, x.r, 0)) = O
  have hsub : ∀ W cx, Fr No w W → W.cell? ⟨cx, 0, none⟩ = some (.pointer (some ⟨g, 0, none⟩)) → Calls Try.prog 44 #[.pointer (some ⟨g, 0, none⟩), .func (.func 46) #[] #[.pointer (some ⟨cx, 0, none⟩)]] W fun e w' => ∃ n, e = .returned (.int .i64 n) ∧ DoneO g B O w e w' := fun W cx hW hcx => by
    have hS := h.no hW
    have hcl := World.block_lt_of_cell? W _ hcx
    subst hO
    refine (num_calls g x W hS.whole hS.own.ok.row hS.own.ok.objs hS.own.ok.nobjs i0 i1 h0 h1 _ _ (PutR (fun r => r.o.nums.length) RO.N x.d.n x W) hcfc ?_).mono (fun e w' hq => (by have hd := done_write hS i0 hq; obtain ⟨n, hn⟩ := done_ret hd; exact ⟨n, hn, (fr_no hW).trans hd.1, hd.2⟩))
    intro i r b o c V _ hr hi hP hV
    have hSV := hS.no hV
    obtain ⟨v, hv, e1, z1⟩ := num_at hSV.own hr hP (j := x.d.i.toNat) (by omega)
    refine (do_5 g V x.d.n (hSV.whole.cell 4) cx b (o + x.d.i.toNat) v ((hV.cell hcl (fun x => x)).trans hcx) e1 z1).mono ?_
    rintro e w' ⟨rfl, hp⟩
    exact ⟨rfl, b, o, c, V, hP, hV, hp⟩
  have Hsub := Lib.hid hsub
  clear hsub h hk hcfc hO
  generalize DoneO g B O w = Post at *
  go_enter Try.func21, Try.ntmps21
  go_wp2_with fail
  refine (Hsub.out _ _ (((Fr.refl _ _).alloc _).alloc _) (((Whole.new w 57 [.pointer (some ⟨g, 0, none⟩)]).alloc _).cell 0)).mono ?_
  rintro e w1 ⟨n, rfl, hq⟩
  go_wp2
  exact hq

set_option maxRecDepth 4000 in
set_option maxHeartbeats 1000000 in
theorem do_put (g B : Nat) (x : DX) (w : World) (h : St w g B x) (hk : x.d.kind = 5) (h0 : 0 ≤ x.d.a) (h1 : x.d.a ≤ 5) (q0 : 0 ≤ x.d.b) (q1 : x.d.b ≤ 5) (i0 : 0 ≤ x.d.i) (i1 : x.d.i ≤ 7) :
    Calls Try.prog 21 #[.pointer (some ⟨g, 0, none⟩)] w (DoneO g B (fieldP x.m.pure.objs (x.r.getD x.d.a.toNat 0) false x.d.i (fun o => o.ptrs.length) fun j o => (⟨x.m.pure.objs.set j { o with ptrs := o.ptrs.set x.d.i.toNat (x.r.getD x.d.b.toNat 0) }, x.m.pure.queue⟩, x.r, 0)) w) := by
  have c0 : w.cell? ⟨g, 0, none⟩ = some (.int .i64 5) := hk ▸ h.whole.cell 0
  have c1 : w.cell? ⟨g, 1, none⟩ = some (.int .i64 x.d.a) := h.whole.cell 1
  have hgl := h.whole.lt
  have hcfc : ∀ (args : Array Value) (W : World), (callFunc 43 args).run Try.prog W = .ok (.enter 43 args) W := fun args W => by kernel_rfl
  generalize hO : (fieldP x.m.pure.objs (x.r.getD x.d.a.toNat 0) false x.d.i (fun o => o.ptrs.length) fun j o => (⟨x.m.pure.objs.set j { o with ptrs := o.ptrs.set x.d.i.toNat (x.r.getD x.d.b.toNat 0) }, x.m.pure.queue⟩, x.r, 0)) = O
  have hsub : ∀ W cx, Fr No w W → W.cell? ⟨cx, 0, none⟩ = some (.pointer (some ⟨g, 0, none⟩)) → Calls Try.prog 38 #[.pointer (some ⟨g, 0, none⟩), .int .i64 x.d.a, .func (.func 43) #[] #[.pointer (some ⟨cx, 0, none⟩)]] W fun e w' => ∃ n, e = .returned (.int .i64 n) ∧ DoneO g B O w e w' := fun W cx hW hcx => by
    have hS := h.no hW
    have hcl := World.block_lt_of_cell? W _ hcx
    subst hO
    refine (ptr_calls g x W hS.whole hS.own.ok.row hS.own.ok.objs hS.own.ok.nobjs i0 i1 x.d.a h0 h1 _ _ (PutR (fun r => r.o.ptrs.length) RO.P (x.r.getD x.d.b.toNat 0) x W) hcfc ?_).mono (fun e w' hq => (by have hd := done_put hS i0 hq; obtain ⟨n, hn⟩ := done_ret hd; exact ⟨n, hn, (fr_no hW).trans hd.1, hd.2⟩))
    intro i r b o c V _ hr hi hP hV
    have hSV := hS.no hV
    obtain ⟨v, hv, e1, z1⟩ := ptr_at hSV.own hr hP (j := x.d.i.toNat) (by omega)
    refine (do_3 g x V hSV.whole q0 q1 cx b (o + x.d.i.toNat) v ((hV.cell hcl (fun x => x)).trans hcx) e1 z1).mono ?_
    rintro e w' ⟨rfl, hp⟩
    exact ⟨rfl, b, o, c, V, hP, hV, hp⟩
  have Hsub := Lib.hid hsub
  clear hsub h hk hcfc hO
  generalize DoneO g B O w = Post at *
  have hF := ((Fr.refl No w).alloc (.cells #[.pointer (some ⟨g, 0, none⟩)] 57)).alloc (.cells #[.func (.func 34) #[] #[.pointer (some ⟨w.heap.size, 0, none⟩)]] 86)
  have hX : Whole ((w.alloc (.cells #[.pointer (some ⟨g, 0, none⟩)] 57)).alloc (.cells #[.func (.func 34) #[] #[.pointer (some ⟨w.heap.size, 0, none⟩)]] 86)) w.heap.size 57 [.pointer (some ⟨g, 0, none⟩)] := (Whole.new w _ [_]).alloc _
  have HF := Lib.hid hF
  have HX := Lib.hid hX
  clear hF hX
  go_enter Try.func21, Try.ntmps21
  go_wp2_with fail
  go_region_with (go_at_call 38; refine (Hsub.out _ _ HF.out.drew (HX.out.drew.cell 0)).mono ?_; rintro e w1 ⟨n, rfl, hp⟩)
  all_goals go_wp2
  all_goals go_ret
  all_goals exact hp
end Go.Proofs.Ytbjknkgefpeohaa
