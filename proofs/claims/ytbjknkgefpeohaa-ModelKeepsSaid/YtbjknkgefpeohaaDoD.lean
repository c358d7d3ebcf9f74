/- Contract of do: objects that are laid. Conditions: right deeds, lists shorter than 2^40. -/
import Derived.Test.YtbjknkgefpeohaaDoA
import Derived.Laws.MakeOwn
import Derived.BigRegion
namespace Go.Proofs.Ytbjknkgefpeohaa
open Go.RowKit
attribute [local go_sem ↓] Go.wp_at_zero Go.wp_at_succ

theorem made_zero (n : Nat) : (madeCells #[.int .i64 0] (n * 1)).toList = intVals (List.replicate n 0) := by
  have hz : ∀ i : Nat, (#[Value.int .i64 0][i % (#[Value.int .i64 0] : Array Value).size]! : Value) = .int .i64 0 := fun i => by
    show (#[Value.int .i64 0][i % 1]! : Value) = _
    rw [Nat.mod_one]; rfl
  unfold madeCells
  rw [Nat.mul_one]
  simp only [hz, Array.toList_map, Array.toList_range, intVals, List.map_replicate]
  rw [List.eq_replicate_iff]
  exact ⟨by simp, fun b hb => by obtain ⟨i, _, rfl⟩ := List.mem_map.1 hb; rfl⟩

theorem run_make_n (P : Program) (t e : TypeId) (i : TypeInfo) (z : Value) (ht : P.underlying t = some (.slice e)) (hi : P.info? e = some i) (hz : i.zero = some z) (n : Int) (h0 : 0 ≤ n) (h1 : i.bytes * n.toNat ≤ 281474976710656) (h2 : n ≤ 9223372036854775807) (w : World) :
    (Instr.makeSlice t (.int .i64 n) (.int .i64 n)).run P w = .ok (.slice (some ⟨w.heap.size, 0, none⟩) n.toNat n.toNat) (w.alloc (.cells (madeCells z.cells (n.toNat * i.size)) e)) := by
  have hb : (i.bytes : Int) * n ≤ 281474976710656 := by
    obtain ⟨k, rfl⟩ := Int.eq_ofNat_of_zero_le h0
    have h1' : i.bytes * k ≤ 281474976710656 := h1
    have h : ((i.bytes * k : Nat) : Int) ≤ 281474976710656 := by omega
    rwa [Int.natCast_mul] at h
  exact run_make (P := P) w t e i z ht hi hz .i64 .i64 n n (by omega) (by omega) hb (by omega)

theorem laid_keeps {g B : Nat} {x : DX} {o : RO} {w w' : World} {e : Ending} (h : St w g B x) (hq : Laid g B x o w e w') :
    (∀ j, j < 5 → w'.cell? ⟨g, j, none⟩ = x.cells[j]?) ∧ (∀ b, b < w.heap.size → b ≠ g → (Value.slice x.m.A x.m.ros.length x.m.c).ownBlock ≠ some b → w'.cell? ⟨b, 0, none⟩ = w.cell? ⟨b, 0, none⟩) := by
  rcases hq with ⟨_, _, hf⟩ | ⟨_, _, _, A', c', hw, _, _, hf⟩
  · exact ⟨fun j _ => (hf.whole h.whole (fun x => x)).cell j, fun b hb _ _ => hf.cell (p := ⟨b, 0, none⟩) hb (fun x => x)⟩
  · refine ⟨fun j hj => ?_, fun b hb h1 h2 => hf.cell (p := ⟨b, 0, none⟩) hb (fun e => e.elim h1 h2)⟩
    rw [hw.cell]
    match j, hj with
    | 0, _ => rfl
    | 1, _ => rfl
    | 2, _ => rfl
    | 3, _ => rfl
    | 4, _ => rfl

set_option maxRecDepth 4000 in
set_option maxHeartbeats 2000000 in
theorem do_alloc (g B : Nat) (x : DX) (w : World) (h : St w g B x) (hk : x.d.kind = 1) (h0 : 0 ≤ x.d.a) (h1 : x.d.a ≤ 5) (i0 : 0 ≤ x.d.i) (i1 : x.d.i ≤ 4) (n0 : 0 ≤ x.d.n) (n1 : x.d.n ≤ 4) :
    Calls Try.prog 21 #[.pointer (some ⟨g, 0, none⟩)] w (DoneO g B (layP x.m.pure x.r x.d.a x.f ⟨0, x.d.i, x.d.n, false, false, List.replicate x.d.i.toNat 0, List.replicate x.d.n.toNat 0, false⟩) w) := by
  generalize hO : layP x.m.pure x.r x.d.a x.f ⟨0, x.d.i, x.d.n, false, false, List.replicate x.d.i.toNat 0, List.replicate x.d.n.toNat 0, false⟩ = O
  have hmk : ∀ n : Int, 0 ≤ n → n ≤ 4 → ∀ W : World, (Instr.makeSlice 39 (.int .i64 n) (.int .i64 n)).run Try.prog W = .ok (.slice (some ⟨W.heap.size, 0, none⟩) n.toNat n.toNat) (W.alloc (.cells (intVals (List.replicate n.toNat 0)).toArray 3)) := fun n q0 q1 W => by
    have := run_make_n Try.prog 39 3 (Try.prog.info? 3).get! (.int .i64 0) rfl rfl rfl n q0 (by show 8 * n.toNat ≤ _; omega) (by omega) W
    rw [this]
    congr 3
    rw [← made_zero]
    rfl
  have hown : ∀ (W : World) (n : Int) (b : Nat), 0 ≤ n → n ≤ 4 → w.heap.size ≤ b → Whole W b 3 (intVals (List.replicate n.toNat 0)) → W.ownsRow B 3 1 (.slice (some ⟨b, 0, none⟩) n.toNat n.toNat) n.toNat (intVals (List.replicate n.toNat 0)) := fun W n b q0 q1 hb hW =>
    ⟨by simp, .inr ⟨b, n.toNat, _, rfl, Nat.le_trans h.hB hb, hW, Nat.le_refl _, by unfold maxLen; omega, by simp, by simp [List.take_of_length_le]⟩⟩
  have hlay : ∀ W b1 b2, Fr No w W → w.heap.size < W.heap.size → w.heap.size ≤ b1 → w.heap.size ≤ b2 → Whole W b1 3 (intVals (List.replicate x.d.i.toNat 0)) → Whole W b2 3 (intVals (List.replicate x.d.n.toNat 0)) →
      Calls Try.prog 36 #[.pointer (some ⟨g, 0, none⟩), .agg #[.int .i64 0, .int .i64 x.d.i, .int .i64 x.d.n, .bool false, .bool false, .slice (some ⟨b1, 0, none⟩) x.d.i.toNat x.d.i.toNat, .slice (some ⟨b2, 0, none⟩) x.d.n.toNat x.d.n.toNat, .bool false]] W fun e w' => ∃ n, e = .returned (.int .i64 n) ∧ DoneO g B O w e w' ∧ w'.cell? ⟨g, 0, none⟩ = some (.int .i64 x.d.kind) ∧ w'.cell? ⟨g, 3, none⟩ = some (.int .i64 x.d.i) ∧ w'.cell? ⟨g, 4, none⟩ = some (.int .i64 x.d.n) ∧ w'.cell? ⟨w.heap.size, 0, none⟩ = W.cell? ⟨w.heap.size, 0, none⟩ := fun W b1 b2 hW hWs hb1 hb2 hw1 hw2 => by
    have hS := h.no hW
    have hgl := h.whole.lt
    subst hO
    have e1 : (List.replicate x.d.i.toNat (0 : Int)).length = x.d.i.toNat := by simp
    have e2 : (List.replicate x.d.n.toNat (0 : Int)).length = x.d.n.toNat := by simp
    refine (lay_calls g B x ⟨⟨0, x.d.i, x.d.n, false, false, List.replicate x.d.i.toNat 0, List.replicate x.d.n.toNat 0, false⟩, .slice (some ⟨b1, 0, none⟩) x.d.i.toNat x.d.i.toNat, .slice (some ⟨b2, 0, none⟩) x.d.n.toNat x.d.n.toNat⟩ W hS.whole hS.six hS.hB hS.own.own.objs.1 hS.hng hS.own.nobjs h0 h1 ⟨_, _, _, _, by rw [e1], by rw [e2]⟩).mono ?_
    intro e w' hq
    have hd := done_lay hS (o := ⟨⟨0, x.d.i, x.d.n, false, false, List.replicate x.d.i.toNat 0, List.replicate x.d.n.toNat 0, false⟩, .slice (some ⟨b1, 0, none⟩) x.d.i.toNat x.d.i.toNat, .slice (some ⟨b2, 0, none⟩) x.d.n.toNat x.d.n.toNat⟩)
      ⟨by rw [e1]; exact hown W _ _ i0 i1 hb1 hw1, by rw [e2]; exact hown W _ _ n0 n1 hb2 hw2⟩ ⟨by rw [e1]; unfold Cap; omega, by rw [e2]; unfold Cap; omega⟩ ?_ ?_ hq
    · obtain ⟨n, hn⟩ := done_ret hd
      obtain ⟨k1, k2⟩ := laid_keeps hS hq
      exact ⟨n, hn, ⟨(fr_no hW).trans hd.1, hd.2⟩, k1 0 (by decide), k1 3 (by decide), k1 4 (by decide), k2 _ hWs (by omega) (fun e => by have := (h.own.own.objs.lt w.heap.size (by simp [e])).2; omega)⟩
    · simp only [RO.blocks, Value.ownBlock, Option.toList_some, List.mem_append, List.mem_singleton]
      omega
    · intro k hk e
      simp only [RO.blocks, Value.ownBlock, Option.toList_some, List.mem_append, List.mem_singleton] at hk
      have := (h.own.own.objs.lt k (by simp [e])).2
      omega
  have Hlay := Lib.hid hlay
  have hm1 := hmk x.d.i i0 i1
  have hm2 := hmk x.d.n n0 n1
  have hF := ((Fr.refl No w).alloc (.cells #[.pointer (some ⟨g, 0, none⟩)] 57)).alloc (.cells #[.func (.func 34) #[] #[.pointer (some ⟨w.heap.size, 0, none⟩)]] 86)
  have hX : Whole ((w.alloc (.cells #[.pointer (some ⟨g, 0, none⟩)] 57)).alloc (.cells #[.func (.func 34) #[] #[.pointer (some ⟨w.heap.size, 0, none⟩)]] 86)) w.heap.size 57 [.pointer (some ⟨g, 0, none⟩)] := (Whole.new w _ [_]).alloc _
  have hS := h.no hF
  have HF := Lib.hid (show Fr No w _ ∧ St _ g B x ∧ Whole _ w.heap.size 57 _ from ⟨hF, hS, hX⟩)
  have c0 : w.cell? ⟨g, 0, none⟩ = some (.int .i64 1) := hk ▸ h.whole.cell 0
  have hgl := h.whole.lt
  clear hmk hown hlay h hF hX hS hO
  generalize DoneO g B O w = Post at *
  go_enter Try.func21, Try.ntmps21
  go_wp2_with fail
  refine gen_world _ (fun W => Fr No w W ∧ St W g B x ∧ Whole W w.heap.size 57 [.pointer (some ⟨g, 0, none⟩)]) HF.out ?_
  clear HF c0
  rintro W ⟨hF, hS, hX⟩
  have cx : W.cell? ⟨w.heap.size, 0, none⟩ = some (.pointer (some ⟨g, 0, none⟩)) := hX.cell 0
  have c0 : W.cell? ⟨g, 0, none⟩ = some (.int .i64 1) := hk ▸ hS.whole.cell 0
  have c3 : W.cell? ⟨g, 3, none⟩ = some (.int .i64 x.d.i) := hS.whole.cell 3
  have c4 : W.cell? ⟨g, 4, none⟩ = some (.int .i64 x.d.n) := hS.whole.cell 4
  have hcl := hX.lt
  have hgW := hS.whole.lt
  have hsz := hF.size
  rw [hk] at Hlay
  clear hS hk
  generalize x.d.i = i at *
  generalize x.d.n = n at *
  have hW1 := ((hF.alloc (.cells (intVals (List.replicate i.toNat 0)).toArray 3)).alloc (.cells (intVals (List.replicate n.toNat 0)).toArray 3)).drew
  have hW2 := ((hF.alloc (.cells (intVals (List.replicate n.toNat 0)).toArray 3)).alloc (.cells (intVals (List.replicate i.toNat 0)).toArray 3)).drew
  have hlt1 : w.heap.size < ((((W.alloc (.cells (intVals (List.replicate i.toNat 0)).toArray 3)).alloc (.cells (intVals (List.replicate n.toNat 0)).toArray 3)).drew).heap.size) := Nat.lt_of_lt_of_le hcl ((((Fr.refl No W).alloc _).alloc _).drew).size
  have hlt2 : w.heap.size < ((((W.alloc (.cells (intVals (List.replicate n.toNat 0)).toArray 3)).alloc (.cells (intVals (List.replicate i.toNat 0)).toArray 3)).drew).heap.size) := Nat.lt_of_lt_of_le hcl ((((Fr.refl No W).alloc _).alloc _).drew).size
  have cx1 := (hX.alloc (.cells (intVals (List.replicate i.toNat 0)).toArray 3)).alloc (.cells (intVals (List.replicate n.toNat 0)).toArray 3) |>.drew.cell 0
  have cx2 := (hX.alloc (.cells (intVals (List.replicate n.toNat 0)).toArray 3)).alloc (.cells (intVals (List.replicate i.toNat 0)).toArray 3) |>.drew.cell 0
  have CX1 := Lib.hid cx1
  have CX2 := Lib.hid cx2
  clear cx1 cx2 hX
  have HL1 := Lib.hid (Hlay.out _ W.heap.size (W.heap.size + 1) hW1 hlt1 hsz (Nat.le_succ_of_le hsz) (((Whole.new W 3 (intVals (List.replicate i.toNat 0))).alloc _).drew) ((Whole.new1 W 3 (intVals (List.replicate n.toNat 0)) _).drew))
  have HL2 := Lib.hid (Hlay.out _ (W.heap.size + 1) W.heap.size hW2 hlt2 (Nat.le_succ_of_le hsz) hsz ((Whole.new1 W 3 (intVals (List.replicate i.toNat 0)) _).drew) (((Whole.new W 3 (intVals (List.replicate n.toNat 0))).alloc _).drew))
  clear hW1 hW2 Hlay hF hlt1 hlt2
  go_region_held3 (fun w' => w'.cell? ⟨w.heap.size, 0, none⟩ = some (.pointer (some ⟨g, 0, none⟩)) ∧ w'.cell? ⟨g, 0, none⟩ = some (.int .i64 1) ∧ w'.cell? ⟨g, 3, none⟩ = some (.int .i64 i) ∧ w'.cell? ⟨g, 4, none⟩ = some (.int .i64 n)) (first | go_keep | exact ⟨kx', k0, k3, k4⟩) ((go_at_call 36; first | (with_reducible refine HL1.out.mono ?_; rintro e w1 ⟨v, rfl, hq, k0, k3, k4, kx⟩; have kx' := kx.trans CX1.out; clear kx) | (with_reducible refine HL2.out.mono ?_; rintro e w1 ⟨v, rfl, hq, k0, k3, k4, kx⟩; have kx' := kx.trans CX2.out; clear kx)))
  all_goals go_wp2
  all_goals first | exact hq | (go_ret; exact hq)

set_option maxRecDepth 4000 in
set_option maxHeartbeats 2000000 in
theorem do_final (g B : Nat) (x : DX) (w : World) (h : St w g B x) (hk : x.d.kind = 2) (h0 : 0 ≤ x.d.a) (h1 : x.d.a ≤ 5) (i0 : 0 ≤ x.d.i) (i1 : x.d.i ≤ 4) (n0 : 0 ≤ x.d.n) (n1 : x.d.n ≤ 4) :
    Calls Try.prog 21 #[.pointer (some ⟨g, 0, none⟩)] w (DoneO g B (layP x.m.pure x.r x.d.a x.f ⟨0, x.d.i, x.d.n, false, true, List.replicate x.d.i.toNat 0, List.replicate x.d.n.toNat 0, false⟩) w) := by
  generalize hO : layP x.m.pure x.r x.d.a x.f ⟨0, x.d.i, x.d.n, false, true, List.replicate x.d.i.toNat 0, List.replicate x.d.n.toNat 0, false⟩ = O
  have hmk : ∀ n : Int, 0 ≤ n → n ≤ 4 → ∀ W : World, (Instr.makeSlice 39 (.int .i64 n) (.int .i64 n)).run Try.prog W = .ok (.slice (some ⟨W.heap.size, 0, none⟩) n.toNat n.toNat) (W.alloc (.cells (intVals (List.replicate n.toNat 0)).toArray 3)) := fun n q0 q1 W => by
    have := run_make_n Try.prog 39 3 (Try.prog.info? 3).get! (.int .i64 0) rfl rfl rfl n q0 (by show 8 * n.toNat ≤ _; omega) (by omega) W
    rw [this]
    congr 3
    rw [← made_zero]
    rfl
  have hown : ∀ (W : World) (n : Int) (b : Nat), 0 ≤ n → n ≤ 4 → w.heap.size ≤ b → Whole W b 3 (intVals (List.replicate n.toNat 0)) → W.ownsRow B 3 1 (.slice (some ⟨b, 0, none⟩) n.toNat n.toNat) n.toNat (intVals (List.replicate n.toNat 0)) := fun W n b q0 q1 hb hW =>
    ⟨by simp, .inr ⟨b, n.toNat, _, rfl, Nat.le_trans h.hB hb, hW, Nat.le_refl _, by unfold maxLen; omega, by simp, by simp [List.take_of_length_le]⟩⟩
  have hlay : ∀ W b1 b2, Fr No w W → w.heap.size < W.heap.size → w.heap.size ≤ b1 → w.heap.size ≤ b2 → Whole W b1 3 (intVals (List.replicate x.d.i.toNat 0)) → Whole W b2 3 (intVals (List.replicate x.d.n.toNat 0)) →
      Calls Try.prog 36 #[.pointer (some ⟨g, 0, none⟩), .agg #[.int .i64 0, .int .i64 x.d.i, .int .i64 x.d.n, .bool false, .bool true, .slice (some ⟨b1, 0, none⟩) x.d.i.toNat x.d.i.toNat, .slice (some ⟨b2, 0, none⟩) x.d.n.toNat x.d.n.toNat, .bool false]] W fun e w' => ∃ n, e = .returned (.int .i64 n) ∧ DoneO g B O w e w' ∧ w'.cell? ⟨g, 0, none⟩ = some (.int .i64 x.d.kind) ∧ w'.cell? ⟨g, 3, none⟩ = some (.int .i64 x.d.i) ∧ w'.cell? ⟨g, 4, none⟩ = some (.int .i64 x.d.n) ∧ w'.cell? ⟨w.heap.size, 0, none⟩ = W.cell? ⟨w.heap.size, 0, none⟩ := fun W b1 b2 hW hWs hb1 hb2 hw1 hw2 => by
    have hS := h.no hW
    have hgl := h.whole.lt
    subst hO
    have e1 : (List.replicate x.d.i.toNat (0 : Int)).length = x.d.i.toNat := by simp
    have e2 : (List.replicate x.d.n.toNat (0 : Int)).length = x.d.n.toNat := by simp
    refine (lay_calls g B x ⟨⟨0, x.d.i, x.d.n, false, true, List.replicate x.d.i.toNat 0, List.replicate x.d.n.toNat 0, false⟩, .slice (some ⟨b1, 0, none⟩) x.d.i.toNat x.d.i.toNat, .slice (some ⟨b2, 0, none⟩) x.d.n.toNat x.d.n.toNat⟩ W hS.whole hS.six hS.hB hS.own.own.objs.1 hS.hng hS.own.nobjs h0 h1 ⟨_, _, _, _, by rw [e1], by rw [e2]⟩).mono ?_
    intro e w' hq
    have hd := done_lay hS (o := ⟨⟨0, x.d.i, x.d.n, false, true, List.replicate x.d.i.toNat 0, List.replicate x.d.n.toNat 0, false⟩, .slice (some ⟨b1, 0, none⟩) x.d.i.toNat x.d.i.toNat, .slice (some ⟨b2, 0, none⟩) x.d.n.toNat x.d.n.toNat⟩)
      ⟨by rw [e1]; exact hown W _ _ i0 i1 hb1 hw1, by rw [e2]; exact hown W _ _ n0 n1 hb2 hw2⟩ ⟨by rw [e1]; unfold Cap; omega, by rw [e2]; unfold Cap; omega⟩ ?_ ?_ hq
    · obtain ⟨n, hn⟩ := done_ret hd
      obtain ⟨k1, k2⟩ := laid_keeps hS hq
      exact ⟨n, hn, ⟨(fr_no hW).trans hd.1, hd.2⟩, k1 0 (by decide), k1 3 (by decide), k1 4 (by decide), k2 _ hWs (by omega) (fun e => by have := (h.own.own.objs.lt w.heap.size (by simp [e])).2; omega)⟩
    · simp only [RO.blocks, Value.ownBlock, Option.toList_some, List.mem_append, List.mem_singleton]
      omega
    · intro k hk e
      simp only [RO.blocks, Value.ownBlock, Option.toList_some, List.mem_append, List.mem_singleton] at hk
      have := (h.own.own.objs.lt k (by simp [e])).2
      omega
  have Hlay := Lib.hid hlay
  have hm1 := hmk x.d.i i0 i1
  have hm2 := hmk x.d.n n0 n1
  have hF := ((Fr.refl No w).alloc (.cells #[.pointer (some ⟨g, 0, none⟩)] 57)).alloc (.cells #[.func (.func 34) #[] #[.pointer (some ⟨w.heap.size, 0, none⟩)]] 86)
  have hX : Whole ((w.alloc (.cells #[.pointer (some ⟨g, 0, none⟩)] 57)).alloc (.cells #[.func (.func 34) #[] #[.pointer (some ⟨w.heap.size, 0, none⟩)]] 86)) w.heap.size 57 [.pointer (some ⟨g, 0, none⟩)] := (Whole.new w _ [_]).alloc _
  have hS := h.no hF
  have HF := Lib.hid (show Fr No w _ ∧ St _ g B x ∧ Whole _ w.heap.size 57 _ from ⟨hF, hS, hX⟩)
  have c0 : w.cell? ⟨g, 0, none⟩ = some (.int .i64 2) := hk ▸ h.whole.cell 0
  have hgl := h.whole.lt
  clear hmk hown hlay h hF hX hS hO
  generalize DoneO g B O w = Post at *
  go_enter Try.func21, Try.ntmps21
  go_wp2_with fail
  refine gen_world _ (fun W => Fr No w W ∧ St W g B x ∧ Whole W w.heap.size 57 [.pointer (some ⟨g, 0, none⟩)]) HF.out ?_
  clear HF c0
  rintro W ⟨hF, hS, hX⟩
  have cx : W.cell? ⟨w.heap.size, 0, none⟩ = some (.pointer (some ⟨g, 0, none⟩)) := hX.cell 0
  have c0 : W.cell? ⟨g, 0, none⟩ = some (.int .i64 2) := hk ▸ hS.whole.cell 0
  have c3 : W.cell? ⟨g, 3, none⟩ = some (.int .i64 x.d.i) := hS.whole.cell 3
  have c4 : W.cell? ⟨g, 4, none⟩ = some (.int .i64 x.d.n) := hS.whole.cell 4
  have hcl := hX.lt
  have hgW := hS.whole.lt
  have hsz := hF.size
  rw [hk] at Hlay
  clear hS hk
  generalize x.d.i = i at *
  generalize x.d.n = n at *
  have hW1 := ((hF.alloc (.cells (intVals (List.replicate i.toNat 0)).toArray 3)).alloc (.cells (intVals (List.replicate n.toNat 0)).toArray 3)).drew
  have hW2 := ((hF.alloc (.cells (intVals (List.replicate n.toNat 0)).toArray 3)).alloc (.cells (intVals (List.replicate i.toNat 0)).toArray 3)).drew
  have hlt1 : w.heap.size < ((((W.alloc (.cells (intVals (List.replicate i.toNat 0)).toArray 3)).alloc (.cells (intVals (List.replicate n.toNat 0)).toArray 3)).drew).heap.size) := Nat.lt_of_lt_of_le hcl ((((Fr.refl No W).alloc _).alloc _).drew).size
  have hlt2 : w.heap.size < ((((W.alloc (.cells (intVals (List.replicate n.toNat 0)).toArray 3)).alloc (.cells (intVals (List.replicate i.toNat 0)).toArray 3)).drew).heap.size) := Nat.lt_of_lt_of_le hcl ((((Fr.refl No W).alloc _).alloc _).drew).size
  have cx1 := (hX.alloc (.cells (intVals (List.replicate i.toNat 0)).toArray 3)).alloc (.cells (intVals (List.replicate n.toNat 0)).toArray 3) |>.drew.cell 0
  have cx2 := (hX.alloc (.cells (intVals (List.replicate n.toNat 0)).toArray 3)).alloc (.cells (intVals (List.replicate i.toNat 0)).toArray 3) |>.drew.cell 0
  have CX1 := Lib.hid cx1
  have CX2 := Lib.hid cx2
  clear cx1 cx2 hX
  have HL1 := Lib.hid (Hlay.out _ W.heap.size (W.heap.size + 1) hW1 hlt1 hsz (Nat.le_succ_of_le hsz) (((Whole.new W 3 (intVals (List.replicate i.toNat 0))).alloc _).drew) ((Whole.new1 W 3 (intVals (List.replicate n.toNat 0)) _).drew))
  have HL2 := Lib.hid (Hlay.out _ (W.heap.size + 1) W.heap.size hW2 hlt2 (Nat.le_succ_of_le hsz) hsz ((Whole.new1 W 3 (intVals (List.replicate i.toNat 0)) _).drew) (((Whole.new W 3 (intVals (List.replicate n.toNat 0))).alloc _).drew))
  clear hW1 hW2 Hlay hF hlt1 hlt2
  go_region_held3 (fun w' => w'.cell? ⟨w.heap.size, 0, none⟩ = some (.pointer (some ⟨g, 0, none⟩)) ∧ w'.cell? ⟨g, 0, none⟩ = some (.int .i64 2) ∧ w'.cell? ⟨g, 3, none⟩ = some (.int .i64 i) ∧ w'.cell? ⟨g, 4, none⟩ = some (.int .i64 n)) (first | go_keep | exact ⟨kx', k0, k3, k4⟩) ((go_at_call 36; first | (with_reducible refine HL1.out.mono ?_; rintro e w1 ⟨v, rfl, hq, k0, k3, k4, kx⟩; have kx' := kx.trans CX1.out; clear kx) | (with_reducible refine HL2.out.mono ?_; rintro e w1 ⟨v, rfl, hq, k0, k3, k4, kx⟩; have kx' := kx.trans CX2.out; clear kx)))
  all_goals go_wp2
  all_goals first | exact hq | (go_ret; exact hq)
end Go.Proofs.Ytbjknkgefpeohaa
