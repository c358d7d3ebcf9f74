/- Contract of Come. Conditions: a model that can be read, queues shorter than 2^40. -/
import Derived.Test.YtbjknkgefpeohaaDo
namespace Go.Proofs.Ytbjknkgefpeohaa
open Go.RowKit
attribute [local go_sem ↓] Go.wp_at_zero Go.wp_at_succ

set_option maxHeartbeats 1000000 in
theorem come_calls (m : RM) (s q : Int) (w : World) (h : m.ok w) (hn : m.ros.length + 1 ≤ Cap) (hq : m.qs.length + 1 ≤ Cap) :
    Calls Try.prog 16 #[m.val, .int .i64 s, .int .i64 q] w
      fun e w' => ∃ m' : RM, e = .returned m'.val ∧ m'.ok w' ∧ m'.pure = ⟨m.pure.objs, m.pure.queue ++ [(s, q)]⟩ ∧ Fr No w w' := by
  have hcop : ∀ W, Fr No w W → Calls Try.prog 20 #[.agg #[.slice m.A m.ros.length m.c, .slice m.Q m.qs.length m.qc]] W
      fun e w' => ∃ A c n Q qc k, ∃ m' : RM, e = .returned (.agg #[.slice A n c, .slice Q k qc]) ∧ m'.A = A ∧ m'.c = c ∧ m'.ros.length = n ∧ m'.Q = Q ∧ m'.qc = qc ∧ m'.qs.length = k ∧ m'.pure = m.pure ∧ m'.own w' W.heap.size ∧ Fr No W w' := fun W hW =>
    (copied_calls m W (h.no hW)).mono fun e w' ⟨m', he, h1, h2, h3⟩ => ⟨_, _, _, _, _, _, m', he, rfl, rfl, rfl, rfl, rfl, rfl, h1, h2, h3⟩
  have Hcop := Lib.hid hcop
  have HO := Lib.hid (fun (m' : RM) (w' : World) (B : Nat) => own_of_copy (m' := m') (w' := w') (B := B) h hn)
  clear hcop h
  simp only [RM.val]
  go_enter Try.func16, Try.ntmps16
  go_wp2_with (first
    | (go_at_call 20; with_reducible refine (Hcop.out _ (((Fr.refl _ _).alloc _).alloc _)).mono ?_; rintro e w1 ⟨A1, c1, n1, Q1, qc1, k1, m1, rfl, a1, a2, a3, a4, a5, a6, hp1, ho1, hf1⟩; have hM1 := hf1.whole ((Whole.new w 29 [.slice m.A m.ros.length m.c, .slice m.Q m.qs.length m.qc]).alloc _) (fun x => x); have hR1 := hf1.whole (Whole.new1 w 29 [.slice none 0 0, .slice none 0 0] _) (fun x => x); have e1 := hM1.cell; have z1 := hM1.frozen; subst a1 a2 a3 a4 a5 a6; have Ho := Lib.hid (HO.out m1 w1 _ hp1 ho1); have hb : ∀ k, (Value.slice m1.Q m1.qs.length m1.qc).ownBlock = some k → w.heap.size + 1 + 1 ≤ k ∧ k < w1.heap.size := (by simpa using ho1.queue.lt))
    | (at_builtin; refine wpList_apps sl_item _ rfl (.tmp 10) (.tmp 14) rfl (w.heap.size + 1 + 1) (.slice m1.Q m1.qs.length m1.qc) m1.qs.length (itemVals m1.qs) rfl ?hown (some ⟨w1.heap.size, 0, none⟩) 1 1 [.int .i64 s, .int .i64 q] rfl ?hrow ?hone ?hlen ?hbase ?_; rotate_left; rotate_left; rotate_left; rotate_left; rotate_left; intro A3 c3 w3 hown3 hg3 hat3; have hM3 := Whole.grown (((hM1.set 0 _).set 1 _).alloc _) hg3 (fun e => by have := (hb _ e.symm).1; omega); have hR3 := Whole.grown (((hR1.far (by simp) _).far (by simp) _).alloc _) hg3 (fun e => by have := (hb _ e.symm).1; omega); have e3 := hM3.cell; have z3 := hM3.frozen; have e4 := hR3.cell; have z4 := hR3.frozen)
    | fail)
  case hlen => have := congrArg (fun x => x.queue.length) hp1; simp [RM.pure] at this; omega
  case hbase => have := hf1.size; simp at this ⊢; omega
  case hone => intro u hu; simp at hu; rcases hu with rfl | rfl <;> rfl
  case hrow => exact Row.of_whole (by simpa using Whole.new ((w1.setCell ⟨w.heap.size, 0, none⟩ (.slice m1.A m1.ros.length m1.c)).setCell ⟨w.heap.size, 1, none⟩ (.slice m1.Q m1.qs.length m1.qc)) 43 [.int .i64 s, .int .i64 q]) 2 1 rfl
  case hown => exact own_base (own_fr ho1.queue ((((Fr.refl (Only w.heap.size) w1).set _ _ (Or.inl (only_self _)) _).set _ _ (Or.inl (only_self _)) _).alloc _) (fun k hk e => by have e' : k = w.heap.size := e; have := (hb k hk).1; omega)) (fun k hk => (hb k hk).1)
  refine gen_exit _ (fun X => Whole X (w.heap.size + 1) 29 [.slice m1.A m1.ros.length m1.c, .slice A3 (m1.qs.length + 1) c3] ∧ Fr (fun k => k = w.heap.size ∨ k = w.heap.size + 1) w3 X) ⟨((hR3.far (by simp) _).set 0 _).set 1 _, (((Fr.refl _ _).set _ _ (Or.inl (Or.inl rfl)) _).set _ _ (Or.inl (Or.inr rfl)) _).set _ _ (Or.inl (Or.inr rfl)) _⟩ ?_
  rintro X ⟨hX, hfX⟩
  refine bodyPost_ret (results_whole Try.results16 rfl hX Try.underlying29 rfl (by kernel_rfl)) rfl ?_
  have hF1 : Fr (fun k => (k = w.heap.size ∨ k = w.heap.size + 1) ∨ (Value.slice m1.Q m1.qs.length m1.qc).ownBlock = some k) w1 w3 := ((((Fr.refl _ w1).set _ _ (Or.inl (Or.inl (Or.inl rfl))) _).set _ _ (Or.inl (Or.inl (Or.inl rfl))) _).alloc _).grown hg3 (fun k hk => Or.inl (Or.inr hk))
  have hF2 := hF1.trans (hfX.mono (fun k _ h => Or.inl h))
  have hB : w.heap.size + 1 + 1 = ((w.alloc (.cells ([.slice m.A m.ros.length m.c, .slice m.Q m.qs.length m.qc] : List Value).toArray 29)).alloc (.cells ([.slice none 0 0, .slice none 0 0] : List Value).toArray 29)).heap.size := by simp
  have hO := ho1.objs.fr hF2 (fun k hk e => by
    have h1 := (ho1.objs.lt k hk).1
    rw [← hB] at h1
    rcases e with (e | e) | e
    · omega
    · omega
    · exact ho1.apart k hk e)
  have e1 : m1.qs.length ≤ m.qs.length := by have := congrArg (fun x => x.queue.length) hp1; simp [RM.pure] at this; omega
  have e2 := Ho.out.nobjs
  have hQ : X.ownsRow (w.heap.size + 1 + 1) 43 2 (.slice A3 (m1.qs.length + 1) c3) (m1.qs.length + 1) (itemVals m1.qs ++ [.int .i64 s, .int .i64 q]) := own_fr hown3 hfX (fun k hk e => by have := (hown3.lt k hk).1; rcases e with e | e <;> omega)
  have hq1 : itemVals (m1.qs ++ [(s, q)]) = itemVals m1.qs ++ [.int .i64 s, .int .i64 q] := by simp [itemVals]
  refine ⟨⟨m1.A, m1.c, A3, c3, m1.ros, m1.qs ++ [(s, q)]⟩, by simp, ⟨Row.of_own hO.1, fun r hr => (hO.2.1 r hr).ok (Ho.out.caps r hr), ?_, by dsimp only; omega, by simp; omega⟩, ?_, ?_⟩
  · dsimp only
    rw [hq1, List.length_append]
    exact Row.of_own hQ
  · rw [← hp1]
    rfl
  · have hF0 : Fr No w w1 := (((Fr.refl No w).alloc _).alloc _).trans hf1
    refine hF0.next hF2 (fun i hi e => ?_)
    rcases e with (e | e) | e
    · omega
    · omega
    · have := (hb i e).1
      omega
end Go.Proofs.Ytbjknkgefpeohaa
