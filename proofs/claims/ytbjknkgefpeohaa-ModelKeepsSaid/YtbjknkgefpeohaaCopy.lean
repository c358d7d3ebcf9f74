/- Contracts of what makes copies of objects and of models. Conditions: lists shorter than 2^40. -/
import Derived.Test.YtbjknkgefpeohaaFind
namespace Go.Proofs.Ytbjknkgefpeohaa
open Go.RowKit
attribute [local go_sem ↓] Go.wp_at_zero Go.wp_at_succ

/-- An object in memory of the call's own. -/
def RO.own (w : World) (B : Nat) (r : RO) : Prop := w.ownsRow B 3 1 r.P r.o.ptrs.length (intVals r.o.ptrs) ∧ w.ownsRow B 3 1 r.N r.o.nums.length (intVals r.o.nums)
def RO.blocks (r : RO) : List Nat := r.P.ownBlock.toList ++ r.N.ownBlock.toList

set_option maxHeartbeats 400000 in
theorem fresh_calls (r : RO) (w : World) (h : r.ok w) :
    Calls Try.prog 27 #[.agg r.cells.toArray] w
      fun e w' => ∃ r' : RO, e = .returned (.agg r'.cells.toArray) ∧ r'.o = r.o ∧ r'.own w' w.heap.size ∧ r'.blocks.Nodup ∧ Fr No w w' := by
  obtain ⟨⟨s, p, d, wk, fi, ps, ns, fr⟩, P, N⟩ := r
  obtain ⟨pA, pc, nA, nc, h1, h2, h3, h4, h5, h6⟩ := h
  dsimp only at h1 h2 h3 h4 h5 h6
  subst h1 h2
  simp only [RO.cells]
  have hk1 : ∀ W, Fr No w W → Calls Try.prog 50 #[.slice pA ps.length pc] W fun e w' => ∃ A' c', e = .returned (.slice A' ps.length c') ∧ w'.ownsRow W.heap.size 3 1 (.slice A' ps.length c') ps.length (intVals ps) ∧ Fr No W w' := fun W hW => clone_int _ _ _ _ _ h5 (h3.no hW) (intVals_one _)
  have hk2 : ∀ W, Fr No w W → Calls Try.prog 50 #[.slice nA ns.length nc] W fun e w' => ∃ A' c', e = .returned (.slice A' ns.length c') ∧ w'.ownsRow W.heap.size 3 1 (.slice A' ns.length c') ns.length (intVals ns) ∧ Fr No W w' := fun W hW => clone_int _ _ _ _ _ h6 (h4.no hW) (intVals_one _)
  have Hk1 := Lib.hid hk1
  have Hk2 := Lib.hid hk2
  clear hk1 hk2 h3 h4 h5 h6
  go_enter Try.func27, Try.ntmps27
  go_wp2_with fail
  refine gen_world _ (fun W => Whole W w.heap.size 41 [.int .i64 s, .int .i64 p, .int .i64 d, .bool wk, .bool fi, .slice pA ps.length pc, .slice nA ns.length nc, .bool fr] ∧ Whole W (w.heap.size + 1) 41 [.int .i64 0, .int .i64 0, .int .i64 0, .bool false, .bool false, .slice none 0 0, .slice none 0 0, .bool false] ∧ Fr No w W) ⟨(Whole.new _ _ [.int .i64 s, .int .i64 p, .int .i64 d, .bool wk, .bool fi, .slice pA ps.length pc, .slice nA ns.length nc, .bool fr]).alloc _, Whole.new1 _ _ [.int .i64 0, .int .i64 0, .int .i64 0, .bool false, .bool false, .slice none 0 0, .slice none 0 0, .bool false] _, ((Fr.refl _ _).alloc _).alloc _⟩ ?_
  rintro W ⟨hS0, hR0, hf0⟩
  have e0 := hS0.cell
  go_region_with (first | (go_at_call 50; with_reducible refine (Hk1.out _ (by exact hf0.drew)).mono ?_; rintro e w1 ⟨A1, c1, rfl, ho1, hf1⟩; have hf01 := hf0.drew.trans hf1; have hS1 := hf1.whole hS0.drew (fun x => x); have hR1 := hf1.whole hR0.drew (fun x => x); have e1 := hS1.cell) | (go_at_call 50; with_reducible refine (Hk2.out _ hf01).mono ?_; rintro e w2 ⟨A2, c2, rfl, ho2, hf2⟩; have hS2 := hf2.whole hS1 (fun x => x); have hR2 := hf2.whole hR1 (fun x => x); have e2 := hS2.cell; have e3 := hR2.cell; have e4 := hS2.frozen; have e5 := hR2.frozen))
  all_goals
    have hz := hR0.lt
    have hz1 : W.heap.size ≤ w1.heap.size := hf1.size
    have hb1 : ∀ g, (Value.slice A1 ps.length c1).ownBlock = some g → W.heap.size ≤ g ∧ g < w1.heap.size := ho1.lt
    have hb2 : ∀ g, (Value.slice A2 ns.length c2).ownBlock = some g → w1.heap.size ≤ g ∧ g < w2.heap.size := ho2.lt
    have hw2 : Fr (Only w.heap.size) w1 ((w2.setCell ⟨w.heap.size, 5, none⟩ (.slice A1 ps.length c1)).setCell ⟨w.heap.size, 6, none⟩ (.slice A2 ns.length c2)) := ((hf2.mono (fun _ _ h => h.elim)).set _ _ (Or.inl (only_self _)) _).set _ _ (Or.inl (only_self _)) _
    have hw3 : Fr (Only w.heap.size) w2 ((w2.setCell ⟨w.heap.size, 5, none⟩ (.slice A1 ps.length c1)).setCell ⟨w.heap.size, 6, none⟩ (.slice A2 ns.length c2)) := ((Fr.refl _ _).set _ _ (Or.inl (only_self _)) _).set _ _ (Or.inl (only_self _)) _
    refine gen_exit _ (fun W => Whole W w.heap.size 41 [.int .i64 s, .int .i64 p, .int .i64 d, .bool wk, .bool fi, .slice A1 ps.length c1, .slice A2 ns.length c2, .bool fr] ∧ Whole W (w.heap.size + 1) 41 [.int .i64 0, .int .i64 0, .int .i64 0, .bool false, .bool false, .slice none 0 0, .slice none 0 0, .bool false] ∧ Fr No w W ∧ W.ownsRow w.heap.size 3 1 (.slice A1 ps.length c1) ps.length (intVals ps) ∧ W.ownsRow w.heap.size 3 1 (.slice A2 ns.length c2) ns.length (intVals ns)) ⟨(hS2.set 5 _).set 6 _, (hR2.far (by simp) _).far (by simp) _, ((hf01.trans hf2).setCell (Or.inr (Nat.le_refl _)) _).setCell (Or.inr (Nat.le_refl _)) _, ?_, ?_⟩ ?_
    · exact own_base (own_fr ho1 hw2 (fun g hg => by have := hb1 g hg; simp only [Only]; omega)) (fun g hg => by have := hb1 g hg; omega)
    · exact own_base (own_fr ho2 hw3 (fun g hg => by have := hb2 g hg; simp only [Only]; omega)) (fun g hg => by have := hb2 g hg; omega)
    · rintro W3 ⟨hS3, hR3, hf3, hP3, hN3⟩
      have e6 := hS3.cell
      clear hw2 hw3 e0 e1 e2 e3 e4 e5
      go_wp2_with (refine wpList_store_whole rfl 41 (.tmp 2) (.tmp 11) rfl (w.heap.size + 1) rfl [.int .i64 s, .int .i64 p, .int .i64 d, .bool wk, .bool fi, .slice A1 ps.length c1, .slice A2 ns.length c2, .bool fr] rfl 41 [.int .i64 0, .int .i64 0, .int .i64 0, .bool false, .bool false, .slice none 0 0, .slice none 0 0, .bool false] hR3 (by kernel_rfl) rfl rfl ?_; intro w4 hR4 hf4)
      refine bodyPost_ret (results_whole Try.results27 rfl hR4 Try.underlying41 rfl (by kernel_rfl)) rfl ?_
      refine ⟨⟨⟨s, p, d, wk, fi, ps, ns, fr⟩, .slice A1 ps.length c1, .slice A2 ns.length c2⟩, rfl, rfl, ⟨own_fr hP3 hf4 (fun g hg => by have := hb1 g hg; simp only [Only]; omega), own_fr hN3 hf4 (fun g hg => by have := hb2 g hg; simp only [Only]; omega)⟩, ?_, ?_⟩
      · simp only [RO.blocks]
        cases hA1 : (Value.slice A1 ps.length c1).ownBlock <;> cases hA2 : (Value.slice A2 ns.length c2).ownBlock <;> simp
        have h1 := hb1 _ hA1
        have h2 := hb2 _ hA2
        omega
      · exact hf3.next hf4 (fun i hi hg => by simp only [Only] at hg; omega)

theorem fresh_out (r : RO) (w : World) (h : r.ok w) :
    Calls Try.prog 27 #[.agg r.cells.toArray] w
      fun e w' => ∃ A1 c1 A2 c2, e = .returned (.agg #[.int .i64 r.o.serial, .int .i64 r.o.np, .int .i64 r.o.nd, .bool r.o.weak, .bool r.o.fin, .slice A1 r.o.ptrs.length c1, .slice A2 r.o.nums.length c2, .bool r.o.freed]) ∧
        RO.own w' w.heap.size ⟨r.o, .slice A1 r.o.ptrs.length c1, .slice A2 r.o.nums.length c2⟩ ∧ (RO.blocks ⟨r.o, .slice A1 r.o.ptrs.length c1, .slice A2 r.o.nums.length c2⟩).Nodup ∧ Fr No w w' := by
  refine (fresh_calls r w h).mono ?_
  rintro e w' ⟨⟨o, P, N⟩, rfl, ho, hown, hnd, hf⟩
  dsimp only at ho
  subst ho
  obtain ⟨A1, c1, hP, _⟩ := own_form hown.1
  obtain ⟨A2, c2, hN, _⟩ := own_form hown.2
  dsimp only at hP hN
  subst hP hN
  exact ⟨A1, c1, A2, c2, rfl, hown, hnd, hf⟩

/-- Objects in memory of the call's own: no two rows in one block. -/
def OwnObjs (w : World) (B : Nat) (v : Value) (ros : List RO) : Prop :=
  w.ownsRow B 41 8 v ros.length (rowOf ros) ∧ (∀ r ∈ ros, r.own w B) ∧ (v.ownBlock.toList ++ ros.flatMap RO.blocks).Nodup

theorem RO.own.form {w : World} {B : Nat} {r : RO} (h : r.own w B) : r.form := by
  obtain ⟨A, c, h1, _⟩ := own_form h.1
  obtain ⟨A', c', h2, _⟩ := own_form h.2
  exact ⟨A, c, A', c', h1, h2⟩
theorem RO.own.lt {w : World} {B : Nat} {r : RO} (h : r.own w B) : ∀ g ∈ r.blocks, B ≤ g ∧ g < w.heap.size := by
  intro g hg
  simp only [RO.blocks, List.mem_append, Option.mem_toList] at hg
  rcases hg with hg | hg
  · exact h.1.lt g hg
  · exact h.2.lt g hg
theorem RO.own.fr {F : Nat → Prop} {w w' : World} {B : Nat} {r : RO} (h : r.own w B) (hf : Fr F w w') (hk : ∀ g ∈ r.blocks, ¬ F g) : r.own w' B :=
  ⟨own_fr h.1 hf (fun g hg => hk g (by simp [RO.blocks, hg])), own_fr h.2 hf (fun g hg => hk g (by simp [RO.blocks, hg]))⟩
theorem RO.own.base {w : World} {B B' : Nat} {r : RO} (h : r.own w B) (hb : B' ≤ B) : r.own w B' :=
  ⟨own_base h.1 (fun g hg => Nat.le_trans hb (h.1.lt g hg).1), own_base h.2 (fun g hg => Nat.le_trans hb (h.2.lt g hg).1)⟩
theorem OwnObjs.lt {w : World} {B : Nat} {v : Value} {ros : List RO} (h : OwnObjs w B v ros) : ∀ g ∈ v.ownBlock.toList ++ ros.flatMap RO.blocks, B ≤ g ∧ g < w.heap.size := by
  intro g hg
  simp only [List.mem_append, Option.mem_toList, List.mem_flatMap] at hg
  rcases hg with hg | ⟨r, hr, hg⟩
  · exact h.1.lt g hg
  · exact (h.2.1 r hr).lt g hg
theorem OwnObjs.fr {F : Nat → Prop} {w w' : World} {B : Nat} {v : Value} {ros : List RO} (h : OwnObjs w B v ros) (hf : Fr F w w') (hk : ∀ g ∈ v.ownBlock.toList ++ ros.flatMap RO.blocks, ¬ F g) : OwnObjs w' B v ros :=
  ⟨own_fr h.1 hf (fun g hg => hk g (by simp [hg])), fun r hr => (h.2.1 r hr).fr hf (fun g hg => hk g (by simp only [List.mem_append, List.mem_flatMap]; exact .inr ⟨r, hr, hg⟩)), h.2.2⟩
theorem OwnObjs.no {w w' : World} {B : Nat} {v : Value} {ros : List RO} (h : OwnObjs w B v ros) (hf : Fr No w w') : OwnObjs w' B v ros := h.fr hf (fun _ _ x => x)
theorem OwnObjs.base {w : World} {B B' : Nat} {v : Value} {ros : List RO} (h : OwnObjs w B v ros) (hb : B' ≤ B) : OwnObjs w B' v ros :=
  ⟨own_base h.1 (fun g hg => Nat.le_trans hb (h.1.lt g hg).1), fun r hr => (h.2.1 r hr).base hb, h.2.2⟩
/-- One object more. -/
theorem OwnObjs.snoc {w w1 w2 w3 : World} {B : Nat} {v v' : Value} {ros : List RO} {r : RO} (h : OwnObjs w B v ros) (hr : r.own w1 w.heap.size) (hn : r.blocks.Nodup) (hB : B ≤ w.heap.size) (hf : Fr No w w1) (hf2 : Fr No w1 w2)
    (ho : w3.ownsRow B 41 8 v' (ros.length + 1) (rowOf ros ++ r.cells)) (hg : w2.grownBy w3 v.ownBlock) (hat : v'.ownBlock = v.ownBlock ∨ v'.ownBlock = some w2.heap.size) : OwnObjs w3 B v' (ros ++ [r]) := by
  have hsz := hf.size
  have hsz2 := hf2.size
  have hlt := h.lt
  have hrl := hr.lt
  have hfg : Fr (fun k => v.ownBlock = some k) w2 w3 := (Fr.refl _ _).grown hg (fun k hk => .inl hk)
  refine ⟨by simpa [rowOf] using ho, fun x hx => ?_, ?_⟩
  · rcases List.mem_append.1 hx with hx | hx
    · refine (((h.2.1 x hx).fr hf (fun _ _ x => x)).fr hf2 (fun _ _ x => x)).fr hfg (fun g hgx hv => ?_)
      have hnd := h.2.2
      rw [List.nodup_append] at hnd
      exact hnd.2.2 g (by simp [hv]) g (List.mem_flatMap.2 ⟨x, hx, hgx⟩) rfl
    · rw [List.mem_singleton] at hx
      subst hx
      refine ((hr.base hB).fr hf2 (fun _ _ x => x)).fr hfg (fun g hgx hv => ?_)
      have h1 := hrl g hgx
      have h2 := hlt g (by simp [hv])
      omega
  · have hnd := h.2.2
    simp only [List.flatMap_append, List.flatMap_cons, List.flatMap_nil, List.append_nil]
    rw [← List.append_assoc, List.nodup_append]
    refine ⟨?_, hn, fun a ha b hb hab => ?_⟩
    · rcases hat with e | e
      · rw [e]; exact hnd
      · rw [e]
        simp only [Option.toList_some, List.singleton_append, List.nodup_cons]
        refine ⟨fun hm => ?_, (List.nodup_append.1 hnd).2.1⟩
        have := hlt _ (List.mem_append_right _ hm)
        omega
    · subst hab
      have h1 := hrl a hb
      rcases List.mem_append.1 ha with ha | ha
      · rcases hat with e | e
        · rw [e] at ha
          have := hlt a (List.mem_append_left _ ha)
          omega
        · rw [e] at ha
          simp at ha
          omega
      · have := hlt a (List.mem_append_right _ ha)
        omega

end Go.Proofs.Ytbjknkgefpeohaa
