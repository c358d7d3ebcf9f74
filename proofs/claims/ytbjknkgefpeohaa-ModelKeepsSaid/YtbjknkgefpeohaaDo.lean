/- Contract of Do. Conditions: a model that can be read, fewer objects than 2^40. -/
import Derived.Test.YtbjknkgefpeohaaDoJ
import Derived.Test.YtbjknkgefpeohaaRight
namespace Go.Proofs.Ytbjknkgefpeohaa
open Go.RowKit
attribute [local go_sem ↓] Go.wp_at_zero Go.wp_at_succ

theorem Whole.new4 (w : World) (T : TypeId) (cs : List Value) (o o' o'' o3 : Obj) : Whole (((((w.alloc o).alloc o').alloc o'').alloc o3).alloc (.cells cs.toArray T)) (w.heap.size + 1 + 1 + 1 + 1) T cs := by simpa using Whole.new ((((w.alloc o).alloc o').alloc o'').alloc o3) T cs
/-- Two results in memory, two in slots. -/
theorem results_two {P : Program} {fn : Func} {p q u v : Tmp} {ty tz : TypeId} (h : fn.results = #[.cell p ty, .cell q tz, .tmp u, .tmp v]) {tmps : Array Value} {w : World} {g k : Nat} {t s : TypeId} {cs ds : List Value} {d e : TypeDesc}
    (hp : tmps.getD p undef = .pointer (some ⟨g, 0, none⟩)) (hg : Whole w g t cs) (hu : P.underlying ty = some d) (hd : (match d with | .struct _ | .array _ _ => true | _ => false) = true) (hi : (P.info? ty).map (·.size) = some cs.length)
    (hq : tmps.getD q undef = .pointer (some ⟨k, 0, none⟩)) (hk : Whole w k s ds) (hu2 : P.underlying tz = some e) (hd2 : (match e with | .struct _ | .array _ _ => true | _ => false) = true) (hi2 : (P.info? tz).map (·.size) = some ds.length) :
    (results fn tmps).run P w = .ok (.tuple #[.agg cs.toArray, .agg ds.toArray, tmps.getD u undef, tmps.getD v undef]) w := by
  have hp' : tmps[p]?.getD undef = .pointer (some ⟨g, 0, none⟩) := by simpa using hp
  have hq' : tmps[q]?.getD undef = .pointer (some ⟨k, 0, none⟩) := by simpa using hq
  simp [results, h, hp', hq', asAddr, run_loadVar_row w g t ty cs.toArray (0, 0) d hg hu hd (by simpa using hi), run_loadVar_row w k s tz ds.toArray (0, 0) e hk hu2 hd2 (by simpa using hi2)]

theorem own_of_copy {m m' : RM} {w w' : World} {B : Nat} (h : m.ok w) (hn : m.ros.length + 1 ≤ Cap) (hp : m'.pure = m.pure) (ho : m'.own w' B) : m'.Own w' B := by
  have e1 : m'.ros.map RO.o = m.ros.map RO.o := congrArg PModel.objs hp
  have e2 : m'.qs = m.qs := congrArg PModel.queue hp
  have el : m'.ros.length = m.ros.length := by simpa using congrArg List.length e1
  refine ⟨ho, fun r hr => ?_, by omega, by rw [e2]; exact h.nqueue⟩
  have hm : r.o ∈ m.ros.map RO.o := e1 ▸ List.mem_map_of_mem hr
  obtain ⟨q, hq, he⟩ := List.mem_map.1 hm
  obtain ⟨_, _, _, _, _, _, _, _, c1, c2⟩ := h.objs q hq
  unfold RO.caps
  rw [← he]
  exact ⟨c1, c2⟩
theorem own_two {m : RM} {w w' : World} {B n3 n4 : Nat} (h : m.Own w B) (hf : Fr (fun k => k = n3 ∨ k = n4) w w') (h3 : n3 < B) (h4 : n4 < B) : m.Own w' B :=
  h.far hf (fun k hk e => by have := (h.own.objs.lt k hk).1; rcases e with e | e <;> omega) (fun k hk e => by have := (h.own.queue.lt k hk).1; rcases e with e | e <;> omega)

theorem lay_len {m : PModel} {r : List Int} {a f : Int} {o : PObj} {m' : PModel} {r' : List Int} {t : Int} (h : layP m r a f o = .inr (m', r', t)) : r'.length = r.length := by
  unfold layP at h
  split at h
  · cases h
  · injection h with h
    injection h with _ h
    injection h with h _
    rw [← h, List.length_set]
theorem field_len {l : List PObj} {v : Int} {weak : Bool} {i : Int} {len : PObj → Nat} {k : Nat → PObj → PModel × List Int × Int} {r : List Int} (hk : ∀ j o, (k j o).2.1.length = r.length) {m' : PModel} {r' : List Int} {t : Int} (h : fieldP l v weak i len k = .inr (m', r', t)) : r'.length = r.length := by
  unfold fieldP at h
  repeat' split at h
  all_goals first | cases h | skip
  injection h with h
  rw [← hk, h]
theorem deed_len {d : PDeed} {m : PModel} {r : List Int} {f s : Int} {m' : PModel} {r' : List Int} {t : Int} (h : deedP d m r f s = .inr (m', r', t)) : r'.length = r.length := by
  unfold deedP at h
  by_cases hc : d.kind = 1 ∨ d.kind = 2
  · rw [if_pos hc] at h
    exact lay_len h
  rw [if_neg hc] at h
  clear hc
  by_cases hc : d.kind = 3
  · rw [if_pos hc] at h
    unfold weakP at h
    split at h
    · cases h
    · exact lay_len h
  rw [if_neg hc] at h
  clear hc
  by_cases hc : d.kind = 4
  · rw [if_pos hc] at h
    exact field_len (fun _ _ => by simp) h
  rw [if_neg hc] at h
  clear hc
  by_cases hc : d.kind = 9
  · rw [if_pos hc] at h
    exact field_len (fun _ _ => by simp) h
  rw [if_neg hc] at h
  clear hc
  by_cases hc : d.kind = 10
  · rw [if_pos hc] at h
    unfold takeP at h
    repeat' split at h
    all_goals
      injection h with h
      injection h with _ h
      injection h with h _
      rw [← h, List.length_set]
  rw [if_neg hc] at h
  clear hc
  by_cases hc : d.kind = 5
  · rw [if_pos hc] at h
    exact field_len (fun _ _ => by simp) h
  rw [if_neg hc] at h
  clear hc
  by_cases hc : d.kind = 6
  · rw [if_pos hc] at h
    exact field_len (fun _ _ => by simp) h
  rw [if_neg hc] at h
  clear hc
  by_cases hc : d.kind = 7
  · rw [if_pos hc] at h
    exact field_len (fun _ _ => by simp) h
  rw [if_neg hc] at h
  clear hc
  by_cases hc : d.kind = 8
  · rw [if_pos hc] at h
    unfold freeP at h
    repeat' split at h
    all_goals first | cases h | skip
    rfl
  rw [if_neg hc] at h
  clear hc
  by_cases hc : d.kind = 11
  · rw [if_pos hc] at h
    injection h with h
    injection h with _ h
    injection h with h _
    simp [← h]
  rw [if_neg hc] at h
  clear hc
  by_cases hc : d.kind = 12
  · rw [if_pos hc] at h
    injection h with h
    injection h with _ h
    injection h with h _
    simp [← h]
  rw [if_neg hc] at h
  clear hc
  by_cases hc : d.kind = 13
  · rw [if_pos hc] at h
    injection h with h
    injection h with _ h
    injection h with h _
    simp [← h]
  rw [if_neg hc] at h
  clear hc
  injection h with h
  injection h with _ h
  injection h with h _
  rw [← h]

/-- What Do answers. -/
def doF (d : PDeed) (m : PModel) (r : List Int) (f s : Int) : PModel × List Int × Int × Int :=
  if rightP d = true then
    match deedP d m r f s with
    | .inl c => (m, r, 0, c)
    | .inr o => (o.1, o.2.1, o.2.2, 0)
  else (m, r, 0, 1)
def sixV (r : List Int) : Value := .agg (intVals r).toArray
def DidDo (d : PDeed) (m : PModel) (r : List Int) (f s : Int) (w : World) (e : Ending) (w' : World) : Prop :=
  ∃ (m' : RM) (r' : List Int) (v c : Int), e = .returned (.tuple #[m'.val, sixV r', .int .i64 v, .int .i64 c]) ∧ Fr No w w' ∧ m'.ok w' ∧ r'.length = 6 ∧ doF d m r f s = (m'.pure, r', v, c)

set_option maxRecDepth 4000 in
set_option maxHeartbeats 2000000 in
theorem Do_calls (m : RM) (d : PDeed) (r0 r1 r2 r3 r4 r5 f s : Int) (w : World) (h : m.ok w) (hn : m.ros.length + 1 ≤ Cap) :
    Calls Try.prog 12 #[m.val, .agg #[.int .i64 r0, .int .i64 r1, .int .i64 r2, .int .i64 r3, .int .i64 r4, .int .i64 r5], .agg #[.int .i64 d.kind, .int .i64 d.a, .int .i64 d.b, .int .i64 d.i, .int .i64 d.n], .int .i64 f, .int .i64 s] w
      (DidDo d m.pure [r0, r1, r2, r3, r4, r5] f s w) := by
  have hcop : ∀ W, Fr No w W → Calls Try.prog 20 #[.agg #[.slice m.A m.ros.length m.c, .slice m.Q m.qs.length m.qc]] W
      fun e w' => ∃ A c n Q qc k, ∃ m' : RM, e = .returned (.agg #[.slice A n c, .slice Q k qc]) ∧ m'.A = A ∧ m'.c = c ∧ m'.ros.length = n ∧ m'.Q = Q ∧ m'.qc = qc ∧ m'.qs.length = k ∧ m'.pure = m.pure ∧ m'.own w' W.heap.size ∧ Fr No W w' := fun W hW =>
    (copied_calls m W (h.no hW)).mono fun e w' ⟨m', he, h1, h2, h3⟩ => ⟨_, _, _, _, _, _, m', he, rfl, rfl, rfl, rfl, rfl, rfl, h1, h2, h3⟩
  have Hcop := Lib.hid hcop
  have HO := Lib.hid (fun (m' : RM) (w' : World) (B : Nat) => own_of_copy (m' := m') (w' := w') (B := B) h hn)
  have hright := right_calls d
  cases hr : rightP d with
  | false =>
    have hP : ∀ (m' : RM) w', Fr No w w' → m'.ok w' → m'.pure = m.pure → DidDo d m.pure [r0, r1, r2, r3, r4, r5] f s w (.returned (.tuple #[.agg #[.slice m'.A m'.ros.length m'.c, .slice m'.Q m'.qs.length m'.qc], .agg #[.int .i64 r0, .int .i64 r1, .int .i64 r2, .int .i64 r3, .int .i64 r4, .int .i64 r5], .int .i64 0, .int .i64 1])) w' := fun m' w' h1 h2 h3 =>
      ⟨m', [r0, r1, r2, r3, r4, r5], 0, 1, rfl, h1, h2, rfl, by unfold doF; rw [hr, h3]; rfl⟩
    have HP := Lib.hid hP
    rw [hr] at hright
    have Hright := Lib.hid hright
    clear hcop hright hP h hr
    generalize DidDo d m.pure [r0, r1, r2, r3, r4, r5] f s w = Post at *
    simp only [RM.val]
    go_enter Try.func12, Try.ntmps12
    go_wp2_with (go_at_call 19; refine (Hright.out _).mono ?_; rintro e w1 ⟨rfl, hf1⟩)
    refine gen_world _ (fun W => Fr No w W ∧ Whole W w.heap.size 29 [.slice m.A m.ros.length m.c, .slice m.Q m.qs.length m.qc] ∧ Whole W (w.heap.size + 1) 24 [.int .i64 r0, .int .i64 r1, .int .i64 r2, .int .i64 r3, .int .i64 r4, .int .i64 r5] ∧ Whole W (w.heap.size + 1 + 1 + 1) 29 [.slice none 0 0, .slice none 0 0] ∧ Whole W (w.heap.size + 1 + 1 + 1 + 1) 24 [.int .i64 0, .int .i64 0, .int .i64 0, .int .i64 0, .int .i64 0, .int .i64 0]) ⟨((((((Fr.refl _ _).alloc _).alloc _).alloc _).alloc _).alloc _).trans hf1, hf1.whole ((((Whole.new _ _ _).alloc _).alloc _).alloc _ |>.alloc _) (fun x => x), hf1.whole ((((Whole.new1 _ _ _ _).alloc _).alloc _).alloc _) (fun x => x), hf1.whole ((Whole.new3 _ _ _ _ _ _).alloc _) (fun x => x), hf1.whole (Whole.new4 _ _ _ _ _ _ _) (fun x => x)⟩ ?_
    rintro W ⟨hF, hM, hR, hM', hR'⟩
    clear hf1 w1 Hright
    have l4 := hR'.lt
    have e0 := hM.cell
    have e1 := hR.cell
    have n34 : w.heap.size + 1 + 1 + 1 ≠ w.heap.size + 1 + 1 + 1 + 1 := by omega
    have n43 : w.heap.size + 1 + 1 + 1 + 1 ≠ w.heap.size + 1 + 1 + 1 := by omega
    have n13 : w.heap.size + 1 ≠ w.heap.size + 1 + 1 + 1 := by omega
    have l0 : w.heap.size ≤ w.heap.size + 1 + 1 + 1 := by omega
    have l1 : w.heap.size ≤ w.heap.size + 1 + 1 + 1 + 1 := by omega
    generalize hn3 : w.heap.size + 1 + 1 + 1 = n3 at *
    generalize hn4 : n3 + 1 = n4 at *
    generalize hn1 : w.heap.size + 1 = n1 at *
    go_region_with (go_at_call 20; with_reducible refine (Hcop.out _ (by exact hF.drew)).mono ?_; rintro e w2 ⟨A1, c1, k1, Q1, qc1, j1, m1, rfl, a1, a2, a3, a4, a5, a6, hp1, ho1, hf2⟩; have hM2 := hf2.whole hM'.drew (fun x => x); have hR2 := hf2.whole hR'.drew (fun x => x); have e2 := (hf2.whole hR.drew (fun x => x)).cell; have e3 := hM2.cell; have e4 := hR2.cell; have z3 := hM2.frozen; have z4 := hR2.frozen)
    all_goals
      have Hm1 := Lib.hid (HO.out m1 w2 _ hp1 ho1)
      have Hp1 := Lib.hid hp1
      have Hf := Lib.hid (hF.drew.trans hf2)
      clear hp1 ho1 hf2
      refine gen_exit _ (fun X => Whole X n3 29 [.slice A1 k1 c1, .slice Q1 j1 qc1] ∧ Whole X n4 24 [.int .i64 r0, .int .i64 r1, .int .i64 r2, .int .i64 r3, .int .i64 r4, .int .i64 r5] ∧ Fr (fun k => k = n3 ∨ k = n4) w2 X) ⟨?_, ?_, ?_⟩ ?_
      · exact (((((((hM2.set 0 _).set 1 _).far (by exact n34) _).far (by exact n34) _).far (by exact n34) _).far (by exact n34) _).far (by exact n34) _).far (by exact n34) _
      · exact (((((((hR2.far (by exact n43) _).far (by exact n43) _).set 0 _).set 1 _).set 2 _).set 3 _).set 4 _).set 5 _
      · exact ((((((((Fr.refl _ _).set _ _ (Or.inl (Or.inl rfl)) _).set _ _ (Or.inl (Or.inl rfl)) _).set _ _ (Or.inl (Or.inr rfl)) _).set _ _ (Or.inl (Or.inr rfl)) _).set _ _ (Or.inl (Or.inr rfl)) _).set _ _ (Or.inl (Or.inr rfl)) _).set _ _ (Or.inl (Or.inr rfl)) _).set _ _ (Or.inl (Or.inr rfl)) _
      · rintro X ⟨x1, x2, x3⟩
        clear e0 e1 e2 e3 e4 z3 z4
        go_wp2
        refine bodyPost_ret (results_two Try.results12 rfl x1 Try.underlying29 rfl (by kernel_rfl) rfl x2 Try.underlying24 rfl (by kernel_rfl)) rfl ?_
        have hok := (own_two Hm1.out x3 (by show n3 < W.heap.size; omega) l4).ok
        have hfr : Fr No w X := Hf.out.next x3 (fun i hi hk => by rcases hk with hk | hk <;> omega)
        subst a1 a2 a3 a4 a5 a6
        exact HP.out m1 _ hfr hok Hp1.out
  | true =>
    have hP1 : ∀ (m' : RM) w' c, deedP d m.pure [r0, r1, r2, r3, r4, r5] f s = .inl c → Fr No w w' → m'.ok w' → m'.pure = m.pure → DidDo d m.pure [r0, r1, r2, r3, r4, r5] f s w (.returned (.tuple #[.agg #[.slice m'.A m'.ros.length m'.c, .slice m'.Q m'.qs.length m'.qc], .agg #[.int .i64 r0, .int .i64 r1, .int .i64 r2, .int .i64 r3, .int .i64 r4, .int .i64 r5], .int .i64 0, .int .i64 c])) w' := fun m' w' c h0 h1 h2 h3 =>
      ⟨m', [r0, r1, r2, r3, r4, r5], 0, c, rfl, h1, h2, rfl, by unfold doF; rw [hr, h3]; simp only [if_true, h0]⟩
    have hP2 : ∀ (m' : RM) w' (s0 s1 s2 s3 s4 s5 t : Int), deedP d m.pure [r0, r1, r2, r3, r4, r5] f s = .inr (m'.pure, [s0, s1, s2, s3, s4, s5], t) → Fr No w w' → m'.ok w' → DidDo d m.pure [r0, r1, r2, r3, r4, r5] f s w (.returned (.tuple #[.agg #[.slice m'.A m'.ros.length m'.c, .slice m'.Q m'.qs.length m'.qc], .agg #[.int .i64 s0, .int .i64 s1, .int .i64 s2, .int .i64 s3, .int .i64 s4, .int .i64 s5], .int .i64 t, .int .i64 0])) w' := fun m' w' s0 s1 s2 s3 s4 s5 t h0 h1 h2 =>
      ⟨m', [s0, s1, s2, s3, s4, s5], t, 0, rfl, h1, h2, rfl, by unfold doF; rw [hr]; simp only [if_true, h0]⟩
    have HP1 := Lib.hid hP1
    have HP2 := Lib.hid hP2
    have Hdo := Lib.hid (fun (m1 : RM) (W : World) (g B : Nat) (hp : m1.pure = m.pure) (hS : St W g B ⟨d, m1, [r0, r1, r2, r3, r4, r5], f, s, 0⟩) => hp ▸ do_calls g B ⟨d, m1, [r0, r1, r2, r3, r4, r5], f, s, 0⟩ W hS hr)
    rw [hr] at hright
    have Hright := Lib.hid hright
    clear hcop hright hP1 hP2 h hr
    generalize DidDo d m.pure [r0, r1, r2, r3, r4, r5] f s w = Post at *
    simp only [RM.val]
    go_enter Try.func12, Try.ntmps12
    go_wp2_with (go_at_call 19; refine (Hright.out _).mono ?_; rintro e w1 ⟨rfl, hf1⟩)
    refine gen_world _ (fun W => Fr No w W ∧ Whole W w.heap.size 29 [.slice m.A m.ros.length m.c, .slice m.Q m.qs.length m.qc] ∧ Whole W (w.heap.size + 1) 24 [.int .i64 r0, .int .i64 r1, .int .i64 r2, .int .i64 r3, .int .i64 r4, .int .i64 r5] ∧ Whole W (w.heap.size + 1 + 1) 26 [.int .i64 d.kind, .int .i64 d.a, .int .i64 d.b, .int .i64 d.i, .int .i64 d.n] ∧ Whole W (w.heap.size + 1 + 1 + 1) 29 [.slice none 0 0, .slice none 0 0] ∧ Whole W (w.heap.size + 1 + 1 + 1 + 1) 24 [.int .i64 0, .int .i64 0, .int .i64 0, .int .i64 0, .int .i64 0, .int .i64 0]) ⟨((((((Fr.refl _ _).alloc _).alloc _).alloc _).alloc _).alloc _).trans hf1, hf1.whole ((((Whole.new _ _ _).alloc _).alloc _).alloc _ |>.alloc _) (fun x => x), hf1.whole ((((Whole.new1 _ _ _ _).alloc _).alloc _).alloc _) (fun x => x), hf1.whole (((Whole.new2 _ _ _ _ _).alloc _).alloc _) (fun x => x), hf1.whole ((Whole.new3 _ _ _ _ _ _).alloc _) (fun x => x), hf1.whole (Whole.new4 _ _ _ _ _ _ _) (fun x => x)⟩ ?_
    rintro W ⟨hF, hM, hR, hD, hM', hR'⟩
    clear hf1 w1 Hright
    have l4 := hR'.lt
    have e0 := hM.cell
    have e1 := hR.cell
    have ed := hD.cell
    have n34 : w.heap.size + 1 + 1 + 1 ≠ w.heap.size + 1 + 1 + 1 + 1 := by omega
    have n43 : w.heap.size + 1 + 1 + 1 + 1 ≠ w.heap.size + 1 + 1 + 1 := by omega
    have l0 : w.heap.size ≤ w.heap.size + 1 + 1 + 1 := by omega
    have l1 : w.heap.size ≤ w.heap.size + 1 + 1 + 1 + 1 := by omega
    have l01 : w.heap.size < W.heap.size := by omega
    have l11 : w.heap.size + 1 < W.heap.size := by omega
    have l3 : w.heap.size + 1 + 1 + 1 < W.heap.size := by omega
    generalize hn3 : w.heap.size + 1 + 1 + 1 = n3 at *
    generalize hn4 : n3 + 1 = n4 at *
    generalize hn2 : w.heap.size + 1 + 1 = n2 at *
    generalize hn1 : w.heap.size + 1 = n1 at *
    go_region_held3 (fun w' => (∀ i, w'.cell? ⟨w.heap.size, i, none⟩ = [.slice m.A m.ros.length m.c, .slice m.Q m.qs.length m.qc][i]?) ∧ (∀ i, w'.cell? ⟨n1, i, none⟩ = [.int .i64 r0, .int .i64 r1, .int .i64 r2, .int .i64 r3, .int .i64 r4, .int .i64 r5][i]?) ∧ (∀ i, w'.cell? ⟨n2, i, none⟩ = [.int .i64 d.kind, .int .i64 d.a, .int .i64 d.b, .int .i64 d.i, .int .i64 d.n][i]?)) (first | go_keep | exact ⟨e2, e3, e4⟩ | exact ⟨(wM.alloc _).cell, (wR.alloc _).cell, (wD.alloc _).cell⟩) ((go_at_call 20; with_reducible refine (Hcop.out _ (by exact hF.drew)).mono ?_; rintro e w2 ⟨A1, c1, k1, Q1, qc1, j1, m1, rfl, a1, a2, a3, a4, a5, a6, hp1, ho1, hf2⟩; have wM := hf2.whole hM.drew (fun x => x); have wR := hf2.whole hR.drew (fun x => x); have wD := hf2.whole hD.drew (fun x => x); have e2 := wM.cell; have e3 := wR.cell; have e4 := wD.cell))
    all_goals
      subst a1 a2 a3 a4 a5 a6
      have hBW : W.drew.heap.size = W.heap.size := rfl
      have hs2 : W.heap.size ≤ w2.heap.size := hf2.size
      have hO1 := HO.out m1 w2 _ hp1 ho1
      rw [hBW] at hO1
      have hX1 := Whole.new w2 59 (DX.cells ⟨d, m1, [r0, r1, r2, r3, r4, r5], f, s, 0⟩)
      have hF2 : Fr No w (w2.alloc (.cells (DX.cells ⟨d, m1, [r0, r1, r2, r3, r4, r5], f, s, 0⟩).toArray 59)) := (hF.drew.trans hf2).alloc _
      have hS : St (w2.alloc (.cells (DX.cells ⟨d, m1, [r0, r1, r2, r3, r4, r5], f, s, 0⟩).toArray 59)) w2.heap.size W.heap.size ⟨d, m1, [r0, r1, r2, r3, r4, r5], f, s, 0⟩ :=
        ⟨hX1, rfl, hs2, fun hg => by have := (hO1.own.objs.lt _ hg).2; omega, fun hg => by have := (hO1.own.queue.lt _ hg).2; omega, hO1.no ((Fr.refl _ _).alloc _), rfl⟩
      have wM' := hf2.whole hM'.drew (fun x => x)
      have wR' := hf2.whole hR'.drew (fun x => x)
      refine gen_exit _ (fun X => St X w2.heap.size W.heap.size ⟨d, m1, [r0, r1, r2, r3, r4, r5], f, s, 0⟩ ∧ Whole X w.heap.size 29 [.slice m.A m.ros.length m.c, .slice m.Q m.qs.length m.qc] ∧ Whole X n1 24 [.int .i64 r0, .int .i64 r1, .int .i64 r2, .int .i64 r3, .int .i64 r4, .int .i64 r5] ∧ Whole X n3 29 [.slice none 0 0, .slice none 0 0] ∧ Whole X n4 24 [.int .i64 0, .int .i64 0, .int .i64 0, .int .i64 0, .int .i64 0, .int .i64 0] ∧ Fr No w X) ⟨hS, wM.alloc _, wR.alloc _, wM'.alloc _, wR'.alloc _, hF2⟩ ?_
      clear e0 e1 ed e2 e3 e4 hM hR hD hM' hR' wM wR wD wM' wR' hS hX1 hF2 hO1 hf2 ho1 hF
      generalize w2.heap.size = g at *
      clear hs2
      rintro X ⟨hS, hM, hR, hM', hR', hF⟩
      have HS := Lib.hid hS
      clear hS
      go_wp2_with fail
      refine (Hdo.out m1 X _ _ hp1 HS.out).mono ?_
      clear Hdo HS
      rintro e X4 ⟨hfd, ⟨c, hO, hc, rfl⟩ | ⟨x', hO, rfl, hw', hok', hup'⟩⟩
      · have hF4 : Fr No w X4 := hF.next hfd (fun i hi hk => by omega)
        have gM := hfd.whole hM (by omega)
        have gR := hfd.whole hR (by omega)
        have gM' := hfd.whole hM' (by omega)
        have gR' := hfd.whole hR' (by omega)
        have hc' : (c != 0) = true := by simpa using hc
        have HP := Lib.hid (fun m' w' => HP1.out m' w' c hO)
        clear HP1 HP2 hO hc hfd hM hR hM' hR' hF hp1
        have l5 := gR'.lt
        have e0 := gM.cell
        have e1 := gR.cell
        go_wp2_with fail
        go_region_with (go_at_call 20; with_reducible refine (Hcop.out _ (by exact hF4.drew)).mono ?_; rintro e w3 ⟨A1, c1, k1, Q1, qc1, j1, m2, rfl, a1, a2, a3, a4, a5, a6, hp1, ho1, hf2⟩; have hM2 := hf2.whole gM'.drew (fun x => x); have hR2 := hf2.whole gR'.drew (fun x => x); have e2 := (hf2.whole gR.drew (fun x => x)).cell; have e3 := hM2.cell; have e4 := hR2.cell; have z3 := hM2.frozen; have z4 := hR2.frozen)
        all_goals
          have Hm1 := Lib.hid (HO.out m2 w3 _ hp1 ho1)
          have Hp1 := Lib.hid hp1
          have Hf := Lib.hid (hF4.drew.trans hf2)
          clear hp1 ho1 hf2
          refine gen_exit _ (fun X => Whole X n3 29 [.slice A1 k1 c1, .slice Q1 j1 qc1] ∧ Whole X n4 24 [.int .i64 r0, .int .i64 r1, .int .i64 r2, .int .i64 r3, .int .i64 r4, .int .i64 r5] ∧ Fr (fun k => k = n3 ∨ k = n4) w3 X) ⟨?_, ?_, ?_⟩ ?_
          · exact (((((((hM2.set 0 _).set 1 _).far (by exact n34) _).far (by exact n34) _).far (by exact n34) _).far (by exact n34) _).far (by exact n34) _).far (by exact n34) _
          · exact (((((((hR2.far (by exact n43) _).far (by exact n43) _).set 0 _).set 1 _).set 2 _).set 3 _).set 4 _).set 5 _
          · exact ((((((((Fr.refl _ _).set _ _ (Or.inl (Or.inl rfl)) _).set _ _ (Or.inl (Or.inl rfl)) _).set _ _ (Or.inl (Or.inr rfl)) _).set _ _ (Or.inl (Or.inr rfl)) _).set _ _ (Or.inl (Or.inr rfl)) _).set _ _ (Or.inl (Or.inr rfl)) _).set _ _ (Or.inl (Or.inr rfl)) _).set _ _ (Or.inl (Or.inr rfl)) _
          · rintro X5 ⟨x1, x2, x3⟩
            clear e0 e1 e2 e3 e4 z3 z4
            go_wp2
            refine bodyPost_ret (results_two Try.results12 rfl x1 Try.underlying29 rfl (by kernel_rfl) rfl x2 Try.underlying24 rfl (by kernel_rfl)) rfl ?_
            have hok := (own_two Hm1.out x3 (by show n3 < X4.heap.size; omega) l5).ok
            have hfr : Fr No w X5 := Hf.out.next x3 (fun i hi hk => by rcases hk with hk | hk <;> omega)
            subst a1 a2 a3 a4 a5 a6
            exact HP.out m2 _ hfr hok Hp1.out
      · obtain ⟨d', m', r', f', s', t'⟩ := x'
        obtain ⟨s0, s1, s2, s3, s4, s5, rfl⟩ := six (deed_len hO)
        have hF4 : Fr No w X4 := hF.next hfd (fun i hi hk => by omega)
        have gM' := hfd.whole hM' (by omega)
        have gR' := hfd.whole hR' (by omega)
        have gX : Whole X4 g 59 [.int .i64 d'.kind, .int .i64 d'.a, .int .i64 d'.b, .int .i64 d'.i, .int .i64 d'.n, .slice m'.A m'.ros.length m'.c, .slice m'.Q m'.qs.length m'.qc, .int .i64 s0, .int .i64 s1, .int .i64 s2, .int .i64 s3, .int .i64 s4, .int .i64 s5, .int .i64 f', .int .i64 s', .int .i64 t'] := hw'
        have HP := Lib.hid (fun w' => HP2.out m' w' s0 s1 s2 s3 s4 s5 t' hO)
        have HK := Lib.hid (fun (W' : World) (hf : Fr (fun k => k = n3 ∨ k = n4) X4 W') => hok'.fr hup' hf (fun k hk => by rcases hk with hk | hk <;> omega))
        clear HP1 HP2 hO hfd hM hR hM' hR' hF hp1 hok' hup' hw'
        have e0 := gX.cell
        have e3 := gM'.cell
        have e4 := gR'.cell
        have z3 := gM'.frozen
        have z4 := gR'.frozen
        go_wp2_with fail
        go_region
        all_goals
          refine gen_exit _ (fun X => Whole X n3 29 [.slice m'.A m'.ros.length m'.c, .slice m'.Q m'.qs.length m'.qc] ∧ Whole X n4 24 [.int .i64 s0, .int .i64 s1, .int .i64 s2, .int .i64 s3, .int .i64 s4, .int .i64 s5] ∧ Fr (fun k => k = n3 ∨ k = n4) X4 X) ⟨?_, ?_, ?_⟩ ?_
          · exact ((((((((gM'.set 0 _).set 1 _).far (by exact n34) _).far (by exact n34) _).far (by exact n34) _).far (by exact n34) _).far (by exact n34) _).far (by exact n34) _).drew
          · exact ((((((((gR'.far (by exact n43) _).far (by exact n43) _).set 0 _).set 1 _).set 2 _).set 3 _).set 4 _).set 5 _).drew
          · exact (((((((((Fr.refl _ _).set _ _ (Or.inl (Or.inl rfl)) _).set _ _ (Or.inl (Or.inl rfl)) _).set _ _ (Or.inl (Or.inr rfl)) _).set _ _ (Or.inl (Or.inr rfl)) _).set _ _ (Or.inl (Or.inr rfl)) _).set _ _ (Or.inl (Or.inr rfl)) _).set _ _ (Or.inl (Or.inr rfl)) _).set _ _ (Or.inl (Or.inr rfl)) _).drew
          · rintro X5 ⟨x1, x2, x3⟩
            clear e0 e3 e4 z3 z4
            go_wp2
            refine bodyPost_ret (results_two Try.results12 rfl x1 Try.underlying29 rfl (by kernel_rfl) rfl x2 Try.underlying24 rfl (by kernel_rfl)) rfl ?_
            have hfr : Fr No w X5 := hF4.next x3 (fun i hi hk => by rcases hk with hk | hk <;> omega)
            exact HP.out _ hfr (HK.out _ x3)
end Go.Proofs.Ytbjknkgefpeohaa
