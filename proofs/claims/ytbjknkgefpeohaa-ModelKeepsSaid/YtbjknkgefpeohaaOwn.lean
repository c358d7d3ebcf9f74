/- Contracts of what copies a list of objects, and a model. Conditions: lists shorter than 2^40. -/
import Derived.Test.YtbjknkgefpeohaaCopy
namespace Go.Proofs.Ytbjknkgefpeohaa
open Go.RowKit
attribute [local go_sem ↓] Go.wp_at_zero Go.wp_at_succ

set_option maxHeartbeats 400000 in
theorem own_calls (ros : List RO) (A : Option Addr) (c : Nat) (w : World) (hl : ros.length ≤ Cap) (h : Row w 8 A ros.length c (rowOf ros)) (hok : ∀ r ∈ ros, r.ok w) :
    Calls Try.prog 32 #[.slice A ros.length c, .func (.func 27) #[] #[]] w
      fun e w' => ∃ A' c' ros', e = .returned (.slice A' ros.length c') ∧ ros'.map RO.o = ros.map RO.o ∧ OwnObjs w' w.heap.size (.slice A' ros.length c') ros' ∧ Fr No w w' := by
  have hl' := cap_lt hl
  have hlen : ros.length ≤ 9223372036854775807 := by omega
  clear hl'
  go_enter Try.func32, Try.ntmps32
  go_wp2
  go_loopw [4, 9] (fun v i wr => ∃ (k : Nat) (A' : Option Addr) (c' : Nat) (ros' : List RO), k ≤ ros.length ∧ i = .int .i64 k ∧ v = .slice A' k c' ∧ ros'.length = k ∧ ros'.map RO.o = (ros.take k).map RO.o ∧ OwnObjs wr w.heap.size (.slice A' k c') ros' ∧ Fr No w wr) (fun _ i _ => ros.length - (intOf i).toNat)
  case atStart => exact ⟨0, none, 0, [], Nat.zero_le _, rfl, rfl, rfl, by simp, ⟨World.ownsRow_nil _ _ _ _, by simp, by simp [Value.ownBlock]⟩, Fr.refl _ _⟩
  case round =>
    obtain ⟨k, A', c', ros', hk, rfl, rfl, hrl, hro, hown, hfr⟩ := hrel
    by_cases hlt : k < ros.length
    · obtain ⟨r, hr⟩ : ∃ r, ros[k]? = some r := ⟨_, List.getElem?_eq_getElem hlt⟩
      have hrok := (hok r (List.mem_of_getElem? hr)).no hfr
      have h' := h.no hfr
      obtain ⟨b, o, rfl, hb, -⟩ := h.2.2 (by omega)
      have hcs := obj_cells h' hr
      have c0 : wr.cell? ⟨b, o + k * 8, none⟩ = some (.int .i64 r.o.serial) := hcs 0 (by decide)
      have c1 : wr.cell? ⟨b, o + k * 8 + 1, none⟩ = some (.int .i64 r.o.np) := hcs 1 (by decide)
      have c2 : wr.cell? ⟨b, o + k * 8 + 2, none⟩ = some (.int .i64 r.o.nd) := hcs 2 (by decide)
      have c3 : wr.cell? ⟨b, o + k * 8 + 3, none⟩ = some (.bool r.o.weak) := hcs 3 (by decide)
      have c4 : wr.cell? ⟨b, o + k * 8 + 4, none⟩ = some (.bool r.o.fin) := hcs 4 (by decide)
      have c5 : wr.cell? ⟨b, o + k * 8 + 5, none⟩ = some r.P := hcs 5 (by decide)
      have c6 : wr.cell? ⟨b, o + k * 8 + 6, none⟩ = some r.N := hcs 6 (by decide)
      have c7 : wr.cell? ⟨b, o + k * 8 + 7, none⟩ = some (.bool r.o.freed) := hcs 7 (by decide)
      have hfin : ∀ r' : RO, r'.o = r.o → (ros' ++ [r']).map RO.o = (ros.take (k + 1)).map RO.o := fun r' e => by
        rw [List.take_add_one, hr]; simp [hro, e]
      have Hfin := Lib.hid hfin
      have Hrl := Lib.hid hrl
      have hone : ([.int .i64 r.o.serial, .int .i64 r.o.np, .int .i64 r.o.nd, .bool r.o.weak, .bool r.o.fin, r.P, r.N, .bool r.o.freed] : List Value).all Value.oneCell' = true := by
        obtain ⟨_, _, _, _, h1, h2⟩ := hrok.form
        rw [h1, h2]; rfl
      clear hcs h h' hok hr hfin hro hrl
      go_wp2_with (first
        | (refine wpList_store_whole rfl 41 (.tmp 6) (.tmp 12) rfl wr.heap.size rfl [.int .i64 r.o.serial, .int .i64 r.o.np, .int .i64 r.o.nd, .bool r.o.weak, .bool r.o.fin, r.P, r.N, .bool r.o.freed] rfl 41 [.int .i64 0, .int .i64 0, .int .i64 0, .bool false, .bool false, .slice none 0 0, .slice none 0 0, .bool false] (Whole.new wr _ _) (by kernel_rfl) rfl hone ?_; intro w1 hW1 hf1; have e1 := hW1.cell; have hf01 : Fr No wr w1 := ((Fr.refl No wr).alloc _).next hf1 (fun i hi hg => by simp only [Only] at hg; omega))
        | (go_at_call 27; refine (fresh_out r _ (hrok.no hf01)).mono ?_; rintro e w2 ⟨A2, cc2, B2, d2', rfl, hown2, hnd2, hf2⟩)
        | (at_builtin; refine wpList_app sl_obj _ rfl (.tmp 13) (.tmp 17) rfl w.heap.size (.slice A' k c') ros'.length (rowOf ros') rfl (hown.no ((hf01.trans hf2).alloc _)).1 (some ⟨w2.heap.size, 0, none⟩) 1 1 [.int .i64 r.o.serial, .int .i64 r.o.np, .int .i64 r.o.nd, .bool r.o.weak, .bool r.o.fin, .slice A2 r.o.ptrs.length cc2, .slice B2 r.o.nums.length d2', .bool r.o.freed] rfl (Row.of_whole (Whole.new w2 _ [.int .i64 r.o.serial, .int .i64 r.o.np, .int .i64 r.o.nd, .bool r.o.weak, .bool r.o.fin, .slice A2 r.o.ptrs.length cc2, .slice B2 r.o.nums.length d2', .bool r.o.freed]) 8 1 rfl) (by simp [Value.oneCell']) ?_ ?_ ?_; rotate_left; rotate_left; intro v3 w3 hown3 hg3 hat3)
        | fail)
      case refine_1 => have := Hrl.out; omega
      case refine_2 => have := hf01.size; have := hf2.size; have := hfr.size; simp; omega
      obtain ⟨A3, c3, hv3, -⟩ := own_form hown3
      rw [Hrl.out] at hv3
      subst hv3
      have hf23 : Fr No w2 (w2.alloc (.cells ([.int .i64 r.o.serial, .int .i64 r.o.np, .int .i64 r.o.nd, .bool r.o.weak, .bool r.o.fin, .slice A2 r.o.ptrs.length cc2, .slice B2 r.o.nums.length d2', .bool r.o.freed]).toArray 41)) := (Fr.refl _ _).alloc _
      refine ⟨⟨k + 1, A3, c3, ros' ++ [⟨r.o, .slice A2 r.o.ptrs.length cc2, .slice B2 r.o.nums.length d2'⟩], by omega, by go_num, rfl, by simp [Hrl.out], Hfin.out _ rfl, ?_, ?_⟩, by simp [intOf]; omega⟩
      · exact (hown.no hf01).snoc hown2 hnd2 (by have := hf01.size; have := hfr.size; omega) hf2 hf23 (by rw [Hrl.out] at hown3 ⊢; exact hown3) hg3 hat3
      · refine ((hfr.trans hf01).trans (hf2.trans hf23)).grown hg3 (fun g hg => .inr ?_)
        exact (hown.lt g (by simp [hg])).1
    · have hkl : k = ros.length := by omega
      subst hkl
      have Hro := Lib.hid hro
      clear hro hrl
      go_wp2
      go_ret
      exact ⟨A', c', ros', rfl, by rw [Hro.out, List.take_length], hown, hfr⟩

/-- A model that can be read; a model in memory of the call's own. -/
structure RM where
  A : Option Addr
  c : Nat
  Q : Option Addr
  qc : Nat
  ros : List RO
  qs : List (Int × Int)
def RM.val (m : RM) : Value := .agg #[.slice m.A m.ros.length m.c, .slice m.Q m.qs.length m.qc]
def RM.pure (m : RM) : PModel := ⟨m.ros.map RO.o, m.qs⟩
structure RM.ok (w : World) (m : RM) : Prop where
  row : Row w 8 m.A m.ros.length m.c (rowOf m.ros)
  objs : ∀ r ∈ m.ros, r.ok w
  queue : Row w 2 m.Q m.qs.length m.qc (itemVals m.qs)
  nobjs : m.ros.length ≤ Cap
  nqueue : m.qs.length ≤ Cap
def RM.blocks (m : RM) : List Nat := m.A.toList.map (·.block) ++ m.ros.flatMap RO.blocks
structure RM.own (w : World) (B : Nat) (m : RM) : Prop where
  objs : OwnObjs w B (.slice m.A m.ros.length m.c) m.ros
  queue : w.ownsRow B 43 2 (.slice m.Q m.qs.length m.qc) m.qs.length (itemVals m.qs)
  apart : ∀ g ∈ (Value.slice m.A m.ros.length m.c).ownBlock.toList ++ m.ros.flatMap RO.blocks, (Value.slice m.Q m.qs.length m.qc).ownBlock ≠ some g
theorem RM.ok.no {w w' : World} {m : RM} (h : m.ok w) (hf : Fr No w w') : m.ok w' := ⟨h.row.no hf, fun r hr => (h.objs r hr).no hf, h.queue.no hf, h.nobjs, h.nqueue⟩

set_option maxHeartbeats 400000 in
theorem copied_calls (m : RM) (w : World) (h : m.ok w) :
    Calls Try.prog 20 #[m.val] w
      fun e w' => ∃ m' : RM, e = .returned m'.val ∧ m'.pure = m.pure ∧ m'.own w' w.heap.size ∧ Fr No w w' := by
  obtain ⟨A, c, Q, qc, ros, qs⟩ := m
  obtain ⟨h1, h2, h3, h4, h5⟩ := h
  dsimp only at h1 h2 h3 h4 h5
  simp only [RM.val]
  have hk1 : ∀ W, Fr No w W → Calls Try.prog 32 #[.slice A ros.length c, .func (.func 27) #[] #[]] W
      fun e w' => ∃ A' c' ros', e = .returned (.slice A' ros.length c') ∧ ros'.map RO.o = ros.map RO.o ∧ OwnObjs w' W.heap.size (.slice A' ros.length c') ros' ∧ Fr No W w' := fun W hW => own_calls _ _ _ _ h4 (h1.no hW) (fun r hr => (h2 r hr).no hW)
  have hk2 : ∀ W, Fr No w W → Calls Try.prog 33 #[.slice Q qs.length qc] W
      fun e w' => ∃ A' c', e = .returned (.slice A' qs.length c') ∧ w'.ownsRow W.heap.size 43 2 (.slice A' qs.length c') qs.length (itemVals qs) ∧ Fr No W w' := fun W hW => clone_item _ _ _ _ _ h5 (h3.no hW) (itemVals_one _)
  have Hk1 := Lib.hid hk1
  have Hk2 := Lib.hid hk2
  clear hk1 hk2 h1 h2 h3 h4 h5
  go_enter Try.func20, Try.ntmps20
  go_wp2_with fail
  refine gen_world _ (fun W => Whole W w.heap.size 29 [.slice A ros.length c, .slice Q qs.length qc] ∧ Whole W (w.heap.size + 1) 29 [.slice none 0 0, .slice none 0 0] ∧ Fr No w W) ⟨(Whole.new _ _ [.slice A ros.length c, .slice Q qs.length qc]).alloc _, Whole.new1 _ _ [.slice none 0 0, .slice none 0 0] _, ((Fr.refl _ _).alloc _).alloc _⟩ ?_
  rintro W ⟨hS0, hR0, hf0⟩
  have e0 := hS0.cell
  go_region_with (first | (go_at_call 32; with_reducible refine (Hk1.out _ (by exact hf0.drew)).mono ?_; rintro e w1 ⟨A1, c1, ros1, rfl, hro1, ho1, hf1⟩; have hf01 := hf0.drew.trans hf1; have hS1 := hf1.whole hS0.drew (fun x => x); have hR1 := hf1.whole hR0.drew (fun x => x); have e1 := hS1.cell) | (go_at_call 33; with_reducible refine (Hk2.out _ hf01).mono ?_; rintro e w2 ⟨A2, c2, rfl, ho2, hf2⟩; have hS2 := hf2.whole hS1 (fun x => x); have hR2 := hf2.whole hR1 (fun x => x); have e2 := hS2.cell; have e3 := hR2.cell; have e4 := hS2.frozen; have e5 := hR2.frozen))
  all_goals
    have hz := hR0.lt
    have hz1 : W.heap.size ≤ w1.heap.size := hf1.size
    have hlen : ros1.length = ros.length := by simpa using congrArg List.length hro1
    have hap : ∀ g ∈ (Value.slice A1 ros.length c1).ownBlock.toList ++ ros1.flatMap RO.blocks, (Value.slice A2 qs.length c2).ownBlock ≠ some g := fun g hg h => by
      have h1 := (ho1.lt g hg).2
      have h2 := (ho2.lt g h).1
      omega
    have hw3 : Fr (Only (w.heap.size + 1)) w2 ((w2.setCell ⟨w.heap.size + 1, 0, none⟩ (.slice A1 ros.length c1)).setCell ⟨w.heap.size + 1, 1, none⟩ (.slice A2 qs.length c2)) := ((Fr.refl _ _).set _ _ (Or.inl (only_self _)) _).set _ _ (Or.inl (only_self _)) _
    have Hap := Lib.hid hap
    have Hlen := Lib.hid hlen
    have Hro := Lib.hid hro1
    clear hap hlen hro1
    refine gen_exit _ (fun W => Whole W (w.heap.size + 1) 29 [.slice A1 ros.length c1, .slice A2 qs.length c2] ∧ Fr No w W ∧ OwnObjs W w.heap.size (.slice A1 ros.length c1) ros1 ∧ W.ownsRow w.heap.size 43 2 (.slice A2 qs.length c2) qs.length (itemVals qs)) ⟨(hR2.set 0 _).set 1 _, ?_, ?_, ?_⟩ ?_
    · exact ((hf01.trans hf2).set _ _ (Or.inr (by omega)) _).set _ _ (Or.inr (by omega)) _
    · exact (((ho1.no hf2).fr hw3 (fun g hg => by have := (ho1.lt g hg).1; have : W.heap.size ≤ g := this; simp only [Only]; omega)).base (by have : w.heap.size ≤ W.drew.heap.size := by { show _ ≤ W.heap.size; omega }; exact this))
    · exact own_base (own_fr ho2 hw3 (fun g hg => by have := (ho2.lt g hg).1; simp only [Only]; omega)) (fun g hg => by have := (ho2.lt g hg).1; omega)
    · rintro W3 ⟨hR3, hf3, hP3, hN3⟩
      clear e0 e1 e2 e3 e4 e5 hw3
      go_wp2
      refine bodyPost_ret (results_whole Try.results20 rfl hR3 Try.underlying29 rfl (by kernel_rfl)) rfl ?_
      have hlen := Hlen.out
      have hap := Hap.out
      refine ⟨⟨A1, c1, A2, c2, ros1, qs⟩, by simp only [hlen], by simp only [RM.pure, Hro.out], ⟨by simp only [hlen]; exact hP3, hN3, by simp only [hlen]; exact hap⟩, hf3⟩
end Go.Proofs.Ytbjknkgefpeohaa
