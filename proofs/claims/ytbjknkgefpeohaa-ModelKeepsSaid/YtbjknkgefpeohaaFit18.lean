/- Contract of Fit of layer 18: of raw objects and items, a model that fits. Conditions: numbers of 64 bits. -/
import Derived.Test.YtbjknkgefpeohaaLaw18b
import Derived.Test.YtbjknkgefpeohaaPick
import Derived.BigRegion
import Derived.Deep.Cut
import Derived.Deep.CutRange
import Derived.Test.YtbjknkgefpeohaaStepCall
namespace Go.Proofs.Ytbjknkgefpeohaa
open Go.RowKit
attribute [local go_sem ↓] Go.wp_at_zero Go.wp_at_succ

/-- A raw object that can be read. -/
def RO.raw (w : World) (r : RO) : Prop := ∃ pA pc nA nc, r.P = .slice pA r.o.ptrs.length pc ∧ r.N = .slice nA r.o.nums.length nc ∧
  Row w 1 pA r.o.ptrs.length pc (intVals r.o.ptrs) ∧ Row w 1 nA r.o.nums.length nc (intVals r.o.nums) ∧ r.o.ptrs.length ≤ 9223372036854775807 ∧ r.o.nums.length ≤ 9223372036854775807 ∧ I64 r.o.serial ∧ (∀ x ∈ r.o.ptrs, I64 x)
theorem RO.raw.no {w w' : World} {r : RO} (h : r.raw w) (hf : Fr No w w') : r.raw w' := by
  obtain ⟨pA, pc, nA, nc, h1, h2, h3, h4, h5⟩ := h
  exact ⟨pA, pc, nA, nc, h1, h2, h3.no hf, h4.no hf, h5⟩

theorem row_at {w : World} {b o n c : Nat} {xs : List Int} (h : Row w 1 (some ⟨b, o, none⟩) n c (intVals xs)) {k : Nat} {x : Int} (hx : xs[k]? = some x) : w.cell? ⟨b, o + k, none⟩ = some (.int .i64 x) := by
  have hk := (List.getElem?_eq_some_iff.1 hx).1
  have hl := h.1
  simp [intVals] at hl
  obtain ⟨b', o', hA, _, hc⟩ := h.2.2 (by omega)
  injection hA with hA
  injection hA with h1 h2
  subst h1 h2
  exact hc k _ (by simp [intVals, hx])

/-- The model while its objects are laid. -/
def FitAt (raw : List PObj) (N M : Nat) (w2 wr : World) (k : Nat) : Prop := ∃ A' c' ros', Whole wr M 29 [.slice A' k c', .slice none 0 0] ∧ OwnObjs wr (M + 1) (.slice A' k c') ros' ∧ ros'.map RO.o = (raw.take k).mapIdx (fitO N) ∧ (∀ r ∈ ros', r.caps) ∧ Fr (Only M) w2 wr

theorem fit_snoc {raw : List PObj} {N k : Nat} {o : PObj} {ros' : List RO} {r : RO} (h : ros'.map RO.o = (raw.take k).mapIdx (fitO N)) (ho : raw[k]? = some o) (hr : r.o = fitO N k o) : (ros' ++ [r]).map RO.o = (raw.take (k + 1)).mapIdx (fitO N) := by
  have hk := (List.getElem?_eq_some_iff.1 ho).1
  have hl : (raw.take k).length = k := by simp; omega
  rw [List.take_add_one, ho, List.map_append, h]
  simp [hr, hl]

theorem row_take {w : World} {size n c m : Nat} {A : Option Addr} {xs : List Value} (h : Row w size A n c xs) (hm : m ≤ n) : Row w size A m c (xs.take (m * size)) := by
  have h1 := h.1
  refine ⟨?_, Nat.le_trans hm h.2.1, fun hn => ?_⟩
  · have : m * size ≤ n * size := Nat.mul_le_mul_right _ hm
    simp; omega
  · obtain ⟨b, o, hA, hb, hc⟩ := h.2.2 (by omega)
    exact ⟨b, o, hA, hb, fun j u hu => by
      rw [List.getElem?_take] at hu
      split at hu
      · exact hc j u hu
      · cases hu⟩
theorem own_whole {w : World} {g B n size : Nat} {T : TypeId} {cs : List Value} (h : Whole w g T cs) (hB : B ≤ g) (hl : cs.length = n * size) (hn : n ≤ maxLen) : w.ownsRow B T size (.slice (some ⟨g, 0, none⟩) n n) n cs :=
  ⟨hl, .inr ⟨g, n, cs.toArray, rfl, hB, h, Nat.le_refl _, hn, by simpa using hl, by rw [← hl]; simp⟩⟩
theorem fit_tail {raw : List PObj} {N M : Nat} {w2 wr W1 W2 w3 : World} {k : Nat} {A' : Option Addr} {c' : Nat} {ros' : List RO} {o : PObj} {ro : RO} {A3 : Option Addr} {c3 : Nat}
    (hown : OwnObjs wr (M + 1) (.slice A' k c') ros') (hro : ros'.map RO.o = (raw.take k).mapIdx (fitO N)) (hcaps : ∀ r ∈ ros', r.caps) (hrl : ros'.length = k) (hf : Fr (Only M) w2 wr) (hw2 : w2.heap.size = M + 1) (hMl : M < wr.heap.size)
    (hr : raw[k]? = some o) (hroo : ro.o = fitO N k o) (hrown : ro.own W1 wr.heap.size) (hnd : ro.blocks.Nodup) (hcap : ro.caps) (hf1 : Fr No wr W1) (hf2 : Fr No W1 W2)
    (hown3 : w3.ownsRow (M + 1) 41 8 (.slice A3 (ros'.length + 1) c3) (ros'.length + 1) (rowOf ros' ++ ro.cells)) (hg3 : W2.grownBy w3 (Value.slice A' k c').ownBlock) (hat3 : (Value.slice A3 (ros'.length + 1) c3).ownBlock = (Value.slice A' k c').ownBlock ∨ (Value.slice A3 (ros'.length + 1) c3).ownBlock = some W2.heap.size)
    (hM3 : Whole w3 M 29 [.slice A' k c', .slice none 0 0]) : FitAt raw N M w2 (w3.setCell ⟨M, 0, none⟩ (.slice A3 (ros'.length + 1) c3)) (k + 1) := by
  have hs := hown.snoc hrown hnd (by omega) hf1 hf2 hown3 hg3 hat3
  have hfX : Fr (Only M) w3 (w3.setCell ⟨M, 0, none⟩ (.slice A3 (ros'.length + 1) c3)) := (Fr.refl _ _).set _ _ (Or.inl (only_self _)) _
  rw [hrl] at hs hfX ⊢
  have hs2 := hs.fr hfX (fun g hg e => by
    have e' : g = M := e
    have := (hs.lt g hg).1
    omega)
  refine ⟨A3, c3, ros' ++ [ro], hM3.set 0 _, hs2, fit_snoc hro hr hroo, fun x hx => ?_, ?_⟩
  · rcases List.mem_append.1 hx with hx | hx
    · exact hcaps x hx
    · rw [List.mem_singleton] at hx
      rw [hx]; exact hcap
  · have hg : Fr (fun k => (Value.slice A' ros'.length c').ownBlock = some k) wr w3 := by rw [hrl]; exact (fr_no (hf1.trans hf2)).grown hg3 (fun k hk => .inl hk)
    refine (hf.next hg (fun i hi e => ?_)).trans hfX
    rw [hrl] at e
    have := (hown.lt i (by simp [e])).1
    omega

set_option maxRecDepth 4000 in
set_option maxHeartbeats 40000000 in
theorem fit_18 (ros : List RO) (A : Option Addr) (c : Nat) (qs : List (Int × Int)) (B : Option Addr) (qc : Nat) (w : World) (hl : ros.length ≤ 9223372036854775807) (hql : qs.length ≤ 9223372036854775807)
    (h : Row w 8 A ros.length c (rowOf ros)) (hraw : ∀ r ∈ ros, r.raw w) (hq : Row w 2 B qs.length qc (itemVals qs)) (hqi : ∀ q ∈ qs, I64 q.1) :
    Calls Try.prog 9 #[.slice A ros.length c, .slice B qs.length qc] w
      fun e w' => ∃ m : RM, e = .returned m.val ∧ m.ok w' ∧ m.pure = fitM (ros.map RO.o) qs ∧ Fr No w w' := by
  generalize hn : ros.length = len at *
  generalize hqn : qs.length = qlen at *
  obtain ⟨N, hN, hN8, hNl, hN'⟩ : ∃ N : Nat, (if (8 : Int) < (len : Int) then (8 : Int) else (len : Int)) = (N : Int) ∧ N ≤ 8 ∧ N ≤ len ∧ fitN8 (ros.map RO.o) = N := by
    refine ⟨min len 8, ?_, by omega, by omega, by simp [fitN8, hn]⟩
    split <;> omega
  have HL := Lib.hid (And.intro hl hql)
  go_enter Try.func9, Try.ntmps9
  go_wp2_with fail
  have hR0 := (Whole.new w 29 [.slice none 0 0, .slice none 0 0]).alloc (.cells ([.slice none 0 0, .slice none 0 0] : List Value).toArray 29)
  have hM0 := Whole.new1 w 29 [.slice none 0 0, .slice none 0 0] (.cells ([.slice none 0 0, .slice none 0 0] : List Value).toArray 29)
  have hF0 := ((Fr.refl No w).alloc (.cells ([.slice none 0 0, .slice none 0 0] : List Value).toArray 29)).alloc (.cells ([.slice none 0 0, .slice none 0 0] : List Value).toArray 29)
  have hRM : w.heap.size + 1 = w.heap.size + 1 := rfl
  have hin : FitAt (ros.map RO.o) N (w.heap.size + 1) _ _ 0 := ⟨none, 0, [], hM0, ⟨World.ownsRow_nil _ _ _ _, by simp, by simp [Value.ownBlock]⟩, by simp, by simp, Fr.refl _ _⟩
  have hw2 : ((w.alloc (.cells ([.slice none 0 0, .slice none 0 0] : List Value).toArray 29)).alloc (.cells ([.slice none 0 0, .slice none 0 0] : List Value).toArray 29)).heap.size = w.heap.size + 1 + 1 := by simp
  generalize (w.alloc (.cells ([.slice none 0 0, .slice none 0 0] : List Value).toArray 29)).alloc (.cells ([.slice none 0 0, .slice none 0 0] : List Value).toArray 29) = w2 at *
  generalize hR : w.heap.size = R at *
  generalize hM : R + 1 = M at *
  clear hl hql hN hRM
  go_loopw [7] (fun i wr => ∃ k : Nat, k ≤ N ∧ i = .int .i64 k ∧ FitAt (ros.map RO.o) N M w2 wr k) (fun i _ => N - (intOf i).toNat)
  case atStart => exact ⟨0, by omega, rfl, hin⟩
  case round =>
    clear hin
    obtain ⟨k, hk, rfl, A', c', ros', hMr, hown, hro, hcaps, hf⟩ := hrel
    have hFw : Fr No w wr := hF0.next hf (fun i hi e => by have e' : i = M := e; omega)
    have hrl : ros'.length = k := by have := congrArg List.length hro; simp at this; omega
    by_cases hlt : k < N
    · obtain ⟨r, hr⟩ : ∃ r, ros[k]? = some r := ⟨_, List.getElem?_eq_getElem (by omega)⟩
      obtain ⟨b, o, rfl, hbl, -⟩ := h.2.2 (by omega)
      have Hcs := Lib.hid fun W (hW : Fr No w W) => obj_cells (h.no hW) hr
      have hcs := Hcs.out wr hFw
      have Hr := Lib.hid fun W (hW : Fr No w W) => (hraw r (List.mem_of_getElem? hr)).no hW
      have hlt' : (k : Int) < (len : Int) := by omega
      have i1 : (0 : Int) ≤ (k : Int) := by omega
      have hk8 : (k : Int) < 8 := by omega
      have e0 := hMr.cell
      have z0 := hMr.frozen
      have l0 := hMr.lt
      have d0 : wr.cell? ⟨b, o + k * 8, none⟩ = some (.int .i64 r.o.serial) := hcs 0 (by decide); have d1 : wr.cell? ⟨b, o + k * 8 + 1, none⟩ = some (.int .i64 r.o.np) := hcs 1 (by decide); have d2 : wr.cell? ⟨b, o + k * 8 + 2, none⟩ = some (.int .i64 r.o.nd) := hcs 2 (by decide); have d3 : wr.cell? ⟨b, o + k * 8 + 3, none⟩ = some (.bool r.o.weak) := hcs 3 (by decide); have d4 : wr.cell? ⟨b, o + k * 8 + 4, none⟩ = some (.bool r.o.fin) := hcs 4 (by decide); have d5 : wr.cell? ⟨b, o + k * 8 + 5, none⟩ = some r.P := hcs 5 (by decide); have d6 : wr.cell? ⟨b, o + k * 8 + 6, none⟩ = some r.N := hcs 6 (by decide); have d7 : wr.cell? ⟨b, o + k * 8 + 7, none⟩ = some (.bool r.o.freed) := hcs 7 (by decide)
      clear hcs
      have d31 : wr.cell? ⟨b, o + k * 8 + 1 + 2, none⟩ = some (.bool r.o.weak) := d3
      have d41 : wr.cell? ⟨b, o + k * 8 + 1 + 3, none⟩ = some (.bool r.o.fin) := d4
      have hbr : b < wr.heap.size := by have := hFw.size; omega
      have hMR : M < wr.heap.size := l0
      have Hr0 := Lib.hid hr
      have Hown := Lib.hid hown
      have Hro := Lib.hid (And.intro hro (And.intro hcaps hrl))
      obtain ⟨pA, pc, nA, nc, eP, eN, rP, rN, lP, lN, hser, hpt⟩ := Hr.out wr hFw
      have Hf := Lib.hid hf
      clear h hq hraw hqi hown hr hro hcaps hrl hf
      cases hw : r.o.weak with
      | true =>
        rw [hw] at d31 d3
        have Hpk := Lib.hid fun W => pick_18 r.o.serial N hser (by omega) (by omega) W
        obtain ⟨v0, v1⟩ := pickZ_bd r.o.serial N (by omega)
        have hfo : fitO N k r.o = ⟨(k : Int) + 1, 1, 0, true, false, [1 + pickZ r.o.serial N], [], r.o.freed⟩ := by unfold fitO; rw [if_pos hw]
        have Hfo := Lib.hid hfo
        clear hfo hpt rP rN lP lN hser eP eN hw
        generalize pickZ r.o.serial N = v at *
        have hwr : IntKind.i64.wrap (1 + v) = 1 + v := IntWalk.i64_in _ (by omega)
        go_upto_region 16 with (go_at_call 14; refine (Hpk.out _).mono ?_; rintro e w5 ⟨rfl, hw5⟩; subst hw5)
        refine gen_world _ (fun W => Whole W wr.heap.size 41 [.int .i64 ((k : Int) + 1), .int .i64 1, .int .i64 0, .bool true, .bool false, .slice (some ⟨wr.heap.size + 1, 0, none⟩) 1 1, .slice none 0 0, .bool r.o.freed] ∧ Whole W (wr.heap.size + 1) 3 [.int .i64 (1 + v)] ∧ Fr No wr W) ⟨(Whole.new wr 41 [.int .i64 ((k : Int) + 1), .int .i64 1, .int .i64 0, .bool true, .bool false, .slice (some ⟨wr.heap.size + 1, 0, none⟩) 1 1, .slice none 0 0, .bool r.o.freed]).alloc _, Whole.new1 wr 3 [.int .i64 (1 + v)] _, ((Fr.refl _ _).alloc _).alloc _⟩ ?_
        rintro W1 ⟨hO1, hS1, hf1⟩
        have hown1 : RO.own W1 wr.heap.size ⟨⟨(k : Int) + 1, 1, 0, true, false, [1 + v], [], r.o.freed⟩, .slice (some ⟨wr.heap.size + 1, 0, none⟩) 1 1, .slice none 0 0⟩ := ⟨own_whole hS1 (by omega) rfl (by decide), World.ownsRow_nil _ _ _ _⟩
        have hnd1 : (RO.blocks ⟨⟨(k : Int) + 1, 1, 0, true, false, [1 + v], [], r.o.freed⟩, .slice (some ⟨wr.heap.size + 1, 0, none⟩) 1 1, .slice none 0 0⟩).Nodup := by simp [RO.blocks, Value.ownBlock]
        have hcp : RO.caps ⟨⟨(k : Int) + 1, 1, 0, true, false, [1 + v], [], r.o.freed⟩, .slice (some ⟨wr.heap.size + 1, 0, none⟩) 1 1, .slice none 0 0⟩ := ⟨(by decide : 1 ≤ Cap), (by decide : 0 ≤ Cap)⟩
        have Hcp := Lib.hid hcp
        clear hS1 hcp d0 d1 d2 d3 d4 d5 d6 d7 d31 d41 hwr
        (have hM1 := hf1.whole hMr (fun x => x); have em := hM1.cell; have zm := hM1.frozen; have eo := hO1.cell; have lm := hM1.lt; have lo := hO1.lt; have HW := Lib.hid (And.intro hown1 (And.intro hnd1 hf1)); have HMr := Lib.hid hMr; clear hf1 hM1 hO1 hown1 hnd1 hMr e0 z0; go_wp2_with (at_builtin; refine wpList_apps sl_obj _ rfl (.tmp 104) (.tmp 106) rfl (M + 1) (.slice A' k c') ros'.length (rowOf ros') rfl (Hown.out.no (HW.out.2.2.alloc _)).1 (some ⟨W1.heap.size, 0, none⟩) 1 1 [.int .i64 ((k : Int) + 1), .int .i64 1, .int .i64 0, .bool true, .bool false, .slice (some ⟨wr.heap.size + 1, 0, none⟩) 1 1, .slice none 0 0, .bool r.o.freed] rfl (Row.of_whole (Whole.new W1 _ [.int .i64 ((k : Int) + 1), .int .i64 1, .int .i64 0, .bool true, .bool false, .slice (some ⟨wr.heap.size + 1, 0, none⟩) 1 1, .slice none 0 0, .bool r.o.freed]) 8 1 rfl) (by simp [Value.oneCell']) (by rw [Hro.out.2.2]; exact Nat.le_trans (by omega : k + 1 ≤ 9) (by decide)) (by have := HW.out.2.2.size; simp; omega) ?_; intro A3 c3 w3 hown3 hg3 hat3; have hM3 := Whole.grown ((HW.out.2.2.whole HMr.out (fun x => x)).alloc _) hg3 (fun e => by have := (Hown.out.lt M (by simp [← e])).1; omega); have e3 := hM3.cell; have z3 := hM3.frozen); have hfin := fit_tail Hown.out Hro.out.1 Hro.out.2.1 Hro.out.2.2 Hf.out hw2 hMR (by simpa using congrArg (Option.map RO.o) Hr0.out) Hfo.out.symm HW.out.1 HW.out.2.1 Hcp.out HW.out.2.2 ((Fr.refl No W1).alloc _) hown3 hg3 hat3 hM3; go_roundw; (case rel => exact ⟨k + 1, by omega, by go_num, hfin⟩); (case measure => simp [intOf]; omega))
      | false =>
        rw [hw] at d31 d3
        rw [eP] at d5
        rw [eN] at d6
        generalize hpl : r.o.ptrs.length = pl at *
        generalize hnl : r.o.nums.length = nl at *
        obtain ⟨np, hnp, hnp4, hnpl⟩ : ∃ np : Nat, (if (4 : Int) < (pl : Int) then (4 : Int) else (pl : Int)) = (np : Int) ∧ np ≤ 4 ∧ np ≤ pl ∧ min pl 4 = np := ⟨min pl 4, by split <;> omega, by omega, by omega, rfl⟩
        obtain ⟨nn, hnn, hnn4, hnnl⟩ : ∃ nn : Nat, (if (4 : Int) < (nl : Int) then (4 : Int) else (nl : Int)) = (nn : Int) ∧ nn ≤ 4 ∧ nn ≤ nl ∧ min nl 4 = nn := ⟨min nl 4, by split <;> omega, by omega, by omega, rfl⟩
        have hfo : fitO N k r.o = ⟨(k : Int) + 1, np, nn, false, r.o.fin, (r.o.ptrs.take np).map (pickZ · ((N : Int) + 1)), r.o.nums.take nn, r.o.freed⟩ := by
          unfold fitO
          rw [if_neg (by simp [hw]), hpl, hnl, hnpl.2, hnnl.2]
          have e1 : r.o.ptrs.take np = r.o.ptrs.take 4 := by rw [← hnpl.2, ← hpl]; simp [List.take_eq_take_iff, Nat.min_comm]
          have e2 : r.o.nums.take nn = r.o.nums.take 4 := by rw [← hnnl.2, ← hnl]; simp [List.take_eq_take_iff, Nat.min_comm]
          rw [e1, e2]
        have Hfo := Lib.hid hfo
        have HrP := Lib.hid rP
        have HrN := Lib.hid rN
        have Hpt := Lib.hid hpt
        have Hlen := Lib.hid (And.intro hpl hnl)
        have Hl4 := Lib.hid (And.intro hnpl hnnl)
        clear hfo hpt rP rN lP lN hser eP eN hw hpl hnl hnpl hnnl d0 d1 d2 d3 d4
        go_upto_region 10 with fail
        refine gen_world _ (fun W => Whole W wr.heap.size 41 [.int .i64 ((k : Int) + 1), .int .i64 0, .int .i64 0, .bool false, .bool false, .slice none 0 0, .slice none 0 0, .bool r.o.freed] ∧ Fr No wr W) ⟨Whole.new wr 41 [.int .i64 ((k : Int) + 1), .int .i64 0, .int .i64 0, .bool false, .bool false, .slice none 0 0, .slice none 0 0, .bool r.o.freed], (Fr.refl _ _).alloc _⟩ ?_
        rintro W1 ⟨hO1, hf1⟩
        have g5 := (hf1.cell (p := ⟨b, o + k * 8 + 5, none⟩) hbr (fun x => x)).trans d5
        have g6 := (hf1.cell (p := ⟨b, o + k * 8 + 6, none⟩) hbr (fun x => x)).trans d6
        have g41 := (hf1.cell (p := ⟨b, o + k * 8 + 1 + 3, none⟩) hbr (fun x => x)).trans d41
        have hl1 := hO1.lt
        have hbr1 : b < W1.heap.size := by have := hf1.size; omega
        have eO := hO1.cell
        have zO := hO1.frozen
        generalize hOO : wr.heap.size = O at *
        have D5 := Lib.hid d5
        have D6 := Lib.hid d6
        clear d5 d6 d41 d7 d31
        go_region
        all_goals
          refine gen_exit _ (fun W => Whole W O 41 [.int .i64 ((k : Int) + 1), .int .i64 np, .int .i64 nn, .bool false, .bool r.o.fin, .slice none 0 0, .slice none 0 0, .bool r.o.freed] ∧ Fr No wr W) ⟨((((hO1.set 1 _).set 2 _).set 3 _).set 4 _).drew, ((((hf1.set _ _ (Or.inr (by omega)) _).set _ _ (Or.inr (by omega)) _).set _ _ (Or.inr (by omega)) _).set _ _ (Or.inr (by omega)) _).drew⟩ ?_
          clear hO1 hf1 g5 g6 g41 hl1 hbr1 eO zO
          rintro W3 ⟨hO3, hf3⟩
          obtain ⟨wq, hwq⟩ : ∃ x, x = wr := ⟨_, rfl⟩
          subst hwq
          have hl3 := hO3.lt
          go_wp2_with fail
          go_loopw [9] (fun i wx => ∃ q : Nat, q ≤ np ∧ i = .int .i64 q ∧ ∃ A4 c4, Whole wx O 41 [.int .i64 ((k : Int) + 1), .int .i64 np, .int .i64 nn, .bool false, .bool r.o.fin, .slice A4 q c4, .slice none 0 0, .bool r.o.freed] ∧ wx.ownsRow W3.heap.size 3 1 (.slice A4 q c4) q (intVals ((r.o.ptrs.take q).map (pickZ · ((N : Int) + 1)))) ∧ Fr (Only O) W3 wx) (fun i _ => np - (intOf i).toNat)
          case atStart => exact ⟨0, by omega, rfl, none, 0, hO3, by simpa [intVals] using World.ownsRow_nil _ _ _ _, Fr.refl _ _⟩
          case round =>
            obtain ⟨q, hqn, rfl, A4, c4, hOx, hPx, hfx⟩ := hrel
            clear hO3
            have eO := hOx.cell
            have zO := hOx.frozen
            have lO := hOx.lt
            have hfwx : Fr No wq wr := hf3.next hfx (fun i hi e => by have e' : i = O := e; omega)
            have h5 := (hfwx.cell (p := ⟨b, o + k * 8 + 5, none⟩) (by show b < wq.heap.size; omega) (fun x => x)).trans D5.out
            have hbx : b < wr.heap.size := by have := hfwx.size; omega
            by_cases hqlt : q < np
            · obtain ⟨x, hx⟩ : ∃ x, r.o.ptrs[q]? = some x := ⟨_, List.getElem?_eq_getElem (by rw [Hlen.out.1]; omega)⟩
              have hix := Hpt.out x (List.mem_of_getElem? hx)
              obtain ⟨pb, po, rfl, hpb, -⟩ := HrP.out.2.2 (by omega)
              have hpO : pb < O := by omega
              have hc := (hfwx.cell (p := ⟨pb, po + q, none⟩) hpb (fun x => x)).trans (row_at HrP.out hx)
              have hpx : pb < wr.heap.size := by omega
              obtain ⟨v0, v1⟩ := pickZ_bd x ((N : Int) + 1) (by omega)
              have Hpk := Lib.hid fun W => pick_18 x ((N : Int) + 1) hix (by omega) (by omega) W
              have hsn : intVals ((r.o.ptrs.take (q + 1)).map (pickZ · ((N : Int) + 1))) = intVals ((r.o.ptrs.take q).map (pickZ · ((N : Int) + 1))) ++ [.int .i64 (pickZ x ((N : Int) + 1))] := by rw [List.take_add_one, hx]; simp [intVals]
              have Hsn := Lib.hid hsn
              clear hsn hx hix
              generalize pickZ x ((N : Int) + 1) = v at *
              generalize intVals ((r.o.ptrs.take q).map (pickZ · ((N : Int) + 1))) = old at *
              have hql : (q : Int) < (pl : Int) := by omega
              have hwrN : IntKind.i64.wrap ((N : Int) + 1) = (N : Int) + 1 := IntWalk.i64_in _ (by omega)
              have hq0 : (0 : Int) ≤ (q : Int) := by omega
              have hqn4 : (q : Int) < (np : Int) := by omega
              have hOa := own_fr hPx (((Fr.refl No wr).alloc (.cells #[.int .i64 v] 3)).drew) (fun _ _ h => h)
              have hRa : Row ((wr.alloc (.cells #[.int .i64 v] 3)).drew) 1 (some ⟨wr.heap.size, 0, none⟩) 1 1 [.int .i64 v] := Row.of_whole (Whole.new wr 3 [.int .i64 v]).drew 1 1 rfl
              have hBa : W3.heap.size ≤ ((wr.alloc (.cells #[.int .i64 v] 3)).drew).heap.size := by show W3.heap.size ≤ (wr.alloc _).heap.size; have := hfx.size; simp; omega
              have hcp : q + 1 ≤ Cap := Nat.le_trans (by omega : q + 1 ≤ 9) (by decide)
              have hone : ∀ u ∈ ([.int .i64 v] : List Value), u.oneCell' = true := by simp [Value.oneCell']
              have hGn := Lib.hid fun (w3 : World) (hg : ((wr.alloc (.cells #[.int .i64 v] 3)).drew).grownBy w3 (Value.slice A4 q c4).ownBlock) => Whole.grown ((hOx.alloc (.cells #[.int .i64 v] 3)).drew) hg (fun e => by have := (hPx.lt O e.symm).1; omega)
              have hgb := Lib.hid fun (w3 : World) (hg : ((wr.alloc (.cells #[.int .i64 v] 3)).drew).grownBy w3 (Value.slice A4 q c4).ownBlock) => (((fr_no (((Fr.refl No wr).alloc (.cells #[.int .i64 v] 3)).drew)).grown hg (fun k hk => .inl hk)) : Fr (fun k => (Value.slice A4 q c4).ownBlock = some k) wr w3)
              have hnb := Lib.hid fun k (hk : (Value.slice A4 q c4).ownBlock = some k) => (hPx.lt k hk).1
              have hcf14 : ∀ (args : Array Value) (W : World), (callFunc 14 args).run Try.prog W = .ok (.enter 14 args) W := fun args W => by kernel_rfl
              go_wp2_with fail
              refine wp_last ?_
              intro K2 hK2
              go_cut [] from 67 to 89 (fun wx => ∃ A5 c5, Whole wx O 41 [.int .i64 ((k : Int) + 1), .int .i64 np, .int .i64 nn, .bool false, .bool r.o.fin, .slice A5 (q + 1) c5, .slice none 0 0, .bool r.o.freed] ∧ wx.ownsRow W3.heap.size 3 1 (.slice A5 (q + 1) c5) (q + 1) (old ++ [.int .i64 v]) ∧ Fr (Only O) W3 wx)
              case first =>
                go_region_law ((first | (refine step_call2 _ (by rfl) 14 (.tmp 83) (.tmp 85) #[3, 3] (by rfl) (.int .i64 x) (.int .i64 ((N : Int) + 1)) (by rfl) (by rfl) hcf14 _ (Hpk.out _) ?_; rintro e w3 ⟨rfl, rfl⟩; refine ⟨_, rfl, ?_⟩) | (refine step_apps sl_int _ (by rfl) _ _ (by rfl) W3.heap.size (.slice A4 q c4) q old (by rfl) hOa (some ⟨wr.heap.size, 0, none⟩) 1 1 [.int .i64 v] (by rfl) hRa hone hcp hBa ?_; intro A5 c5 w4 hown4 hg4 hat4; have hO4 := hGn.out w4 hg4; have z4 := hO4.frozen; have e4 := hO4.cell; have hf4 := hgb.out w4 hg4)))
                all_goals
                  go_wp2_with fail
                  go_meet
                  have hfX : Fr (Only O) w4 (w4.setCell ⟨O, 5, none⟩ (.slice A5 (q + 1) c5)) := (Fr.refl _ _).set _ _ (Or.inl (only_self _)) _
                  exact ⟨A5, c5, hO4.set 5 _, own_fr hown4 hfX (fun g hg e => by have e' : g = O := e; have := (hown4.lt g hg).1; omega), (hfx.next hf4 (fun i hi e => by have := hnb.out i e; omega)).trans hfX⟩
              case rest =>
                obtain ⟨A5, c5, hX, hownX, hfrX⟩ := hcut
                rw [← Hsn.out] at hownX
                clear eO zO lO h5 hbx hc hpx hOa hRa hBa hone
                refine hK2 _ _ ?_
                go_wp2
                go_roundw
                case rel =>
                  exact ⟨q + 1, by omega, by go_num, A5, c5, hX, hownX, hfrX⟩
                case measure => simp [intOf]; omega
            · have hqq : np = q := by omega
              subst hqq
              have h6 := (hfwx.cell (p := ⟨b, o + k * 8 + 6, none⟩) (by show b < wq.heap.size; omega) (fun x => x)).trans D6.out
              have hRw := row_take ((HrN.out.no hfwx).no ((Fr.refl No wr).drew)) Hl4.out.2.1
              rw [Nat.mul_one] at hRw
              have hnc : (nn : Int) ≤ (nc : Int) := by have := HrN.out.2.1; have := Hl4.out.2.1; omega
              have hnc0 : nn ≤ nc := by omega
              have hn0 : (0 : Int) ≤ (nn : Int) := by omega
              have ht : (intVals r.o.nums).take nn = intVals (r.o.nums.take nn) := by simp [intVals, List.map_take]
              rw [ht] at hRw
              have hone : ∀ u ∈ intVals (r.o.nums.take nn), u.oneCell' = true := intVals_one _
              have hcp : 0 + nn ≤ Cap := Nat.le_trans (by omega : 0 + nn ≤ 9) (by decide)
              have hBa : W3.heap.size ≤ (wr.drew).heap.size := hfx.size
              have hnil := World.ownsRow_nil (wr.drew) W3.heap.size 3 1
              have hGn := Lib.hid fun (w4 : World) (hg : (wr.drew).grownBy w4 (Value.slice none 0 0).ownBlock) => Whole.grown hOx.drew hg (by simp [Value.ownBlock])
              have hgb := Lib.hid fun (w4 : World) (hg : (wr.drew).grownBy w4 (Value.slice none 0 0).ownBlock) => (((Fr.refl No wr).drew).grown hg (by simp [Value.ownBlock]) : Fr No wr w4)
              go_wp2_with fail
              go_cut [] from 14 to 108 (fun wx => ∃ A6 c6, Whole wx O 41 [.int .i64 ((k : Int) + 1), .int .i64 np, .int .i64 nn, .bool false, .bool r.o.fin, .slice A4 np c4, .slice A6 nn c6, .bool r.o.freed] ∧ wx.ownsRow W3.heap.size 3 1 (.slice A4 np c4) np (intVals ((r.o.ptrs.take np).map (pickZ · ((N : Int) + 1)))) ∧ wx.ownsRow wr.heap.size 3 1 (.slice A6 nn c6) nn (intVals (r.o.nums.take nn)) ∧ Fr (Only O) W3 wx)
              case first =>
                go_region_law (refine step_apps sl_int _ (by rfl) _ _ (by rfl) W3.heap.size (.slice none 0 0) 0 [] (by rfl) hnil nA nn nc (intVals (r.o.nums.take nn)) (by rfl) hRw hone hcp hBa ?_; intro A6 c6 w4 hown4 hg4 hat4; have hO4 := hGn.out w4 hg4; have z4 := hO4.frozen; have e4 := hO4.cell; have hf4 := hgb.out w4 hg4; simp only [Nat.zero_add, List.nil_append] at hown4 hat4)
                all_goals
                  go_wp2_with fail
                  go_meet
                  have hfX : Fr (Only O) w4 (w4.setCell ⟨O, 6, none⟩ (.slice A6 nn c6)) := (Fr.refl _ _).set _ _ (Or.inl (only_self _)) _
                  refine ⟨A6, c6, hO4.set 6 _, own_fr (own_fr hPx hf4 (fun _ _ h => h)) hfX (fun g hg e => by have e' : g = O := e; have := (hPx.lt g hg).1; omega), own_base (own_fr hown4 hfX (fun g hg e => by have e' : g = O := e; have := (hown4.lt g hg).1; omega)) (fun g hg => ?_), (hfx.trans (fr_no hf4)).trans hfX⟩
                  rcases hat4 with e | e
                  · rw [hg] at e; cases e
                  · rw [hg] at e; injection e with e; rw [e]; exact Nat.le_refl wr.heap.size
              case rest =>
                obtain ⟨A6, c6, hO1, hP1, hN1, hf13⟩ := hcut
                obtain ⟨W1, hW1⟩ : ∃ x, x = wc := ⟨_, rfl⟩
                subst hW1
                have hf1 : Fr No wq W1 := hf3.next hf13 (fun i hi e => by have e' : i = O := e; omega)
                have hplen : ((r.o.ptrs.take np).map (pickZ · ((N : Int) + 1))).length = np := by simp; have := Hlen.out.1; have := Hl4.out.1.1; omega
                have hnlen : (r.o.nums.take nn).length = nn := by simp; have := Hlen.out.2; have := Hl4.out.2.1; omega
                subst hOO
                have hown1 : RO.own W1 wq.heap.size ⟨⟨(k : Int) + 1, np, nn, false, r.o.fin, (r.o.ptrs.take np).map (pickZ · ((N : Int) + 1)), r.o.nums.take nn, r.o.freed⟩, .slice A4 np c4, .slice A6 nn c6⟩ := by
                  refine ⟨?_, ?_⟩
                  · dsimp only
                    rw [hplen]
                    exact own_base hP1 (fun g hg => by have := (hP1.lt g hg).1; omega)
                  · dsimp only
                    rw [hnlen]
                    exact own_base hN1 (fun g hg => by have := (hN1.lt g hg).1; have := hfwx.size; omega)
                have hnd1 : (RO.blocks ⟨⟨(k : Int) + 1, np, nn, false, r.o.fin, (r.o.ptrs.take np).map (pickZ · ((N : Int) + 1)), r.o.nums.take nn, r.o.freed⟩, .slice A4 np c4, .slice A6 nn c6⟩).Nodup := by
                  simp only [RO.blocks]
                  rw [List.nodup_append]
                  refine ⟨by cases (Value.slice A4 np c4).ownBlock <;> simp, by cases (Value.slice A6 nn c6).ownBlock <;> simp, fun x hx y hy e => ?_⟩
                  simp only [Option.mem_toList] at hx hy
                  have := (hPx.lt x hx).2
                  have := (hN1.lt y hy).1
                  omega
                have Hcp := Lib.hid (show RO.caps ⟨⟨(k : Int) + 1, np, nn, false, r.o.fin, (r.o.ptrs.take np).map (pickZ · ((N : Int) + 1)), r.o.nums.take nn, r.o.freed⟩, .slice A4 np c4, .slice A6 nn c6⟩ from ⟨by dsimp only; rw [hplen]; exact Nat.le_trans (by omega : np ≤ 9) (by decide), by dsimp only; rw [hnlen]; exact Nat.le_trans (by omega : nn ≤ 9) (by decide)⟩)
                clear hOx hPx hfx hfwx h5 hbx eO zO lO h6 hRw hnc hnc0 hn0 ht hone hcp hBa hnil hGn hgb hP1 hN1 hf13 hplen hnlen
                (have hM1 := hf1.whole hMr (fun x => x); have em := hM1.cell; have zm := hM1.frozen; have eo := hO1.cell; have lm := hM1.lt; have lo := hO1.lt; have HW := Lib.hid (And.intro hown1 (And.intro hnd1 hf1)); have HMr := Lib.hid hMr; clear hf1 hM1 hO1 hown1 hnd1 hMr e0 z0; go_wp2_with (at_builtin; refine wpList_apps sl_obj _ rfl (.tmp 104) (.tmp 106) rfl (M + 1) (.slice A' k c') ros'.length (rowOf ros') rfl (Hown.out.no (HW.out.2.2.alloc _)).1 (some ⟨W1.heap.size, 0, none⟩) 1 1 [.int .i64 ((k : Int) + 1), .int .i64 np, .int .i64 nn, .bool false, .bool r.o.fin, .slice A4 np c4, .slice A6 nn c6, .bool r.o.freed] rfl (Row.of_whole (Whole.new W1 _ [.int .i64 ((k : Int) + 1), .int .i64 np, .int .i64 nn, .bool false, .bool r.o.fin, .slice A4 np c4, .slice A6 nn c6, .bool r.o.freed]) 8 1 rfl) (by simp [Value.oneCell']) (by rw [Hro.out.2.2]; exact Nat.le_trans (by omega : k + 1 ≤ 9) (by decide)) (by have := HW.out.2.2.size; simp; omega) ?_; intro A3 c3 w3 hown3 hg3 hat3; have hM3 := Whole.grown ((HW.out.2.2.whole HMr.out (fun x => x)).alloc _) hg3 (fun e => by have := (Hown.out.lt M (by simp [← e])).1; omega); have e3 := hM3.cell; have z3 := hM3.frozen); have hfin := fit_tail Hown.out Hro.out.1 Hro.out.2.1 Hro.out.2.2 Hf.out hw2 hMR (by simpa using congrArg (Option.map RO.o) Hr0.out) Hfo.out.symm HW.out.1 HW.out.2.1 Hcp.out HW.out.2.2 ((Fr.refl No W1).alloc _) hown3 hg3 hat3 hM3; go_roundw; (case rel => exact ⟨k + 1, by omega, by go_num, hfin⟩); (case measure => simp [intOf]; omega))
    · have hkN : N = k := by omega
      subst hkN
      have hHL := HL.out
      have hQ := hq.no hFw
      have hqi' := hqi
      have HqI := Lib.hid hqi
      have Hown := Lib.hid hown
      have Hro := Lib.hid (And.intro hro (And.intro hcaps hrl))
      have Hq := Lib.hid hq
      have hJ : ∃ J : Nat, (J : Int) = (if N = 0 then 0 else min qlen 4 : Nat) ∧ J ≤ qlen ∧ J ≤ 4 ∧ (N = 0 → J = 0) ∧ (N ≠ 0 → J = min qlen 4) := by
        by_cases hN0 : N = 0
        · exact ⟨0, by simp [hN0], by omega, by omega, fun _ => rfl, fun h => absurd hN0 h⟩
        · exact ⟨min qlen 4, by simp [hN0], by omega, by omega, fun h => absurd h hN0, fun _ => rfl⟩
      obtain ⟨J, -, hJq, hJ4, hJ0, hJ1⟩ := hJ
      obtain ⟨wq, hwq⟩ : ∃ x, x = wr := ⟨_, rfl⟩
      subst hwq
      have hMq := hMr
      have Hf := Lib.hid hf
      have hszq := hMr.lt
      have HR := Lib.hid hR0
      clear h hq hraw hqi hqi' hown hro hcaps hrl hf hMr hR0 hM0
      go_wp2_with fail
      go_loopw [10] (fun i wx => ∃ j : Nat, j ≤ J ∧ i = .int .i64 j ∧ ∃ Qa qa, Whole wx M 29 [.slice A' N c', .slice Qa j qa] ∧ wx.ownsRow wq.heap.size 43 2 (.slice Qa j qa) j (itemVals ((qs.take j).mapIdx (fitItem N))) ∧ Fr (Only M) wq wx) (fun i _ => J - (intOf i).toNat)
      case atStart => exact ⟨0, by omega, rfl, none, 0, hMq, by simpa [itemVals] using World.ownsRow_nil _ _ _ _, Fr.refl _ _⟩
      case round =>
        clear hMq
        obtain ⟨j, hj, rfl, Qa, qa, hMx, hQx, hfx⟩ := hrel
        have e0 := hMx.cell
        have z0 := hMx.frozen
        have l0 := hMx.lt
        have i1 : (0 : Int) ≤ (j : Int) := by omega
        by_cases hjJ : j < J
        · have hN0 : N ≠ 0 := fun e => by have := hJ0 e; omega
          have c1 : (j : Int) < (qlen : Int) := by omega
          have c2 : (j : Int) < 4 := by omega
          have c3 : (N : Int) > 0 := by omega
          obtain ⟨q, hq⟩ : ∃ q, qs[j]? = some q := ⟨_, List.getElem?_eq_getElem (by omega)⟩
          obtain ⟨qb, qo, rfl, hqb, hqc⟩ := Hq.out.2.2 (by omega)
          have hqi := HqI.out q (List.mem_of_getElem? hq)
          have hFx : Fr No w wr := hFw.next hfx (fun i hi e => by have e' : i = M := e; omega)
          have hg := (itemVals_get qs j q hq).1
          have hc := (hFx.cell (p := ⟨qb, qo + j * 2, none⟩) hqb (fun x => x)).trans (hqc _ _ hg)
          have hqbr : qb < wr.heap.size := by have := hFx.size; omega
          obtain ⟨v0, v1⟩ := pickZ_bd q.1 N (by omega)
          have Hpk := Lib.hid fun W => pick_18 q.1 N hqi (by omega) (by omega) W
          have hsn : itemVals ((qs.take (j + 1)).mapIdx (fitItem N)) = itemVals ((qs.take j).mapIdx (fitItem N)) ++ [.int .i64 (1 + pickZ q.1 N), .int .i64 j] := by
            have hl : (qs.take j).length = j := by simp; omega
            rw [List.take_add_one, hq]
            simp [itemVals, fitItem, hl]
          have Hsn := Lib.hid hsn
          clear hsn hq hqi hg hqc
          generalize q.1 = q1 at *
          generalize pickZ q1 N = v at *
          generalize itemVals ((qs.take j).mapIdx (fitItem N)) = old at *
          have hwv : IntKind.i64.wrap (1 + v) = 1 + v := IntWalk.i64_in _ (by omega)
          have hOa := own_fr hQx (((Fr.refl No wr).alloc (.cells #[.int .i64 (1 + v), .int .i64 j] 43)).drew) (fun _ _ h => h)
          have hRa : Row ((wr.alloc (.cells #[.int .i64 (1 + v), .int .i64 j] 43)).drew) 2 (some ⟨wr.heap.size, 0, none⟩) 1 1 [.int .i64 (1 + v), .int .i64 j] := Row.of_whole (Whole.new wr 43 [.int .i64 (1 + v), .int .i64 j]).drew 2 1 rfl
          have hBa : wq.heap.size ≤ ((wr.alloc (.cells #[.int .i64 (1 + v), .int .i64 j] 43)).drew).heap.size := by show wq.heap.size ≤ (wr.alloc _).heap.size; have := hfx.size; simp; omega
          have hcp : j + 1 ≤ Cap := Nat.le_trans (by omega : j + 1 ≤ 9) (by decide)
          have hone : ∀ u ∈ ([.int .i64 (1 + v), .int .i64 j] : List Value), u.oneCell' = true := by simp [Value.oneCell']
          have hGn := Lib.hid fun (w3 : World) (hg : ((wr.alloc (.cells #[.int .i64 (1 + v), .int .i64 j] 43)).drew).grownBy w3 (Value.slice Qa j qa).ownBlock) => Whole.grown ((hMx.alloc (.cells #[.int .i64 (1 + v), .int .i64 j] 43)).drew) hg (fun e => by have := (hQx.lt M e.symm).1; omega)
          have hgb := Lib.hid fun (w3 : World) (hg : ((wr.alloc (.cells #[.int .i64 (1 + v), .int .i64 j] 43)).drew).grownBy w3 (Value.slice Qa j qa).ownBlock) => (((fr_no (((Fr.refl No wr).alloc (.cells #[.int .i64 (1 + v), .int .i64 j] 43)).drew)).grown hg (fun k hk => .inl hk)) : Fr (fun k => (Value.slice Qa j qa).ownBlock = some k) wr w3)
          have hnb := Lib.hid fun k (hk : (Value.slice Qa j qa).ownBlock = some k) => (hQx.lt k hk).1
          have hcf14 : ∀ (args : Array Value) (W : World), (callFunc 14 args).run Try.prog W = .ok (.enter 14 args) W := fun args W => by kernel_rfl
          go_wp2_with fail
          refine wp_last ?_
          intro K2 hK2
          go_cut [] from 109 to 137 (fun wx => ∃ A5 c5, Whole wx M 29 [.slice A' N c', .slice A5 (j + 1) c5] ∧ wx.ownsRow wq.heap.size 43 2 (.slice A5 (j + 1) c5) (j + 1) (old ++ [.int .i64 (1 + v), .int .i64 j]) ∧ Fr (Only M) wq wx)
          case first =>
            go_region_law ((first | (refine step_call2 _ (by rfl) 14 (.tmp 129) (.tmp 130) #[3, 3] (by rfl) (.int .i64 q1) (.int .i64 N) (by rfl) (by rfl) hcf14 _ (Hpk.out _) ?_; rintro e w3 ⟨rfl, rfl⟩; refine ⟨_, rfl, ?_⟩) | (refine step_apps sl_item _ (by rfl) _ _ (by rfl) wq.heap.size (.slice Qa j qa) j old (by rfl) hOa (some ⟨wr.heap.size, 0, none⟩) 1 1 [.int .i64 (1 + v), .int .i64 j] (by rfl) hRa hone hcp hBa ?_; intro A5 c5 w4 hown4 hg4 hat4; have hO4 := hGn.out w4 hg4; have z4 := hO4.frozen; have e4 := hO4.cell; have hf4 := hgb.out w4 hg4)))
            all_goals
              go_wp2_with fail
              go_meet
              have hfX : Fr (Only M) w4 (w4.setCell ⟨M, 1, none⟩ (.slice A5 (j + 1) c5)) := (Fr.refl _ _).set _ _ (Or.inl (only_self _)) _
              exact ⟨A5, c5, hO4.set 1 _, own_fr hown4 hfX (fun g hg e => by have e' : g = M := e; have := (hown4.lt g hg).1; omega), (hfx.next hf4 (fun i hi e => by have := hnb.out i e; omega)).trans hfX⟩
          case rest =>
            obtain ⟨A5, c5, hX, hownX, hfrX⟩ := hcut
            rw [← Hsn.out] at hownX
            clear e0 z0 l0 hc hOa hRa hBa hone
            refine hK2 _ _ ?_
            go_wp2
            go_roundw
            case rel =>
              exact ⟨j + 1, by omega, by go_num, A5, c5, hX, hownX, hfrX⟩
            case measure => simp [intOf]; omega
        · have hjj : j = J := by omega
          have hRw : Whole wr R 29 [.slice none 0 0, .slice none 0 0] := hfx.whole (Hf.out.whole HR.out (fun e => by have e' : R = M := e; omega)) (fun e => by have e' : R = M := e; omega)
          have hcase : ((N : Int) > 0 ∧ (j : Int) < (qlen : Int) ∧ ¬ (j : Int) < 4) ∨ (¬ (j : Int) < (qlen : Int)) ∨ ((j : Int) < (qlen : Int) ∧ (j : Int) < 4 ∧ ¬ (N : Int) > 0) := by
            by_cases hN0 : N = 0
            · have := hJ0 hN0; omega
            · have := hJ1 hN0; omega
          have hRM : R ≠ M := by omega
          have eR := hRw.cell
          have zR := hRw.frozen
          have lR := hRw.lt
          have hok : ∀ W, Fr (Only R) wr W → ∃ m : RM, m.val = .agg #[.slice A' N c', .slice Qa j qa] ∧ m.ok W ∧ m.pure = fitM (ros.map RO.o) qs := by
            intro W hW
            have hb := Hown.out.lt
            have hF2 : Fr (fun k => k = M ∨ k = R) wq W := (hfx.mono (fun _ _ h => Or.inl h)).trans (hW.mono (fun _ _ h => Or.inr h))
            have hO := Hown.out.fr hF2 (fun g hg e => by have := (hb g hg).1; rcases e with e | e <;> omega)
            have hQ := own_fr hQx hW (fun g hg e => by have e' : g = R := e; have := (hQx.lt g hg).1; omega)
            have hrl := Hro.out.2.2
            have hqs : ((qs.take j).mapIdx (fitItem N)).length = j := by simp; omega
            refine ⟨⟨A', c', Qa, qa, ros', (qs.take j).mapIdx (fitItem N)⟩, by simp only [RM.val, hrl, hqs], ⟨?_, fun r hr => (hO.2.1 r hr).ok (Hro.out.2.1 r hr), ?_, ?_, ?_⟩, ?_⟩
            · have h9 := hO.1
              rw [hrl] at h9
              have := Row.of_own h9
              dsimp only
              rw [hrl]
              exact this
            · have := Row.of_own hQ
              dsimp only
              rw [hqs]
              exact this
            · dsimp only; rw [hrl]; exact Nat.le_trans (by omega : N ≤ 9) (by decide)
            · dsimp only; rw [hqs]; exact Nat.le_trans (by omega : j ≤ 9) (by decide)
            · unfold RM.pure fitM
              dsimp only
              rw [Hro.out.1, hN']
              by_cases hN0 : N = 0
              · have := hJ0 hN0
                have hj0 : j = 0 := by omega
                rw [if_pos hN0, hj0]
                rfl
              · have hj4 := hJ1 hN0
                have ht : qs.take j = qs.take 4 := by rw [hjj, hj4, ← hqn]; simp [List.take_eq_take_iff, Nat.min_comm]
                rw [if_neg hN0, ht]
          have Hok := Lib.hid hok
          have HF := Lib.hid (hFw.next hfx (fun i hi e => by have e' : i = M := e; omega))
          have hRw' : w.heap.size ≤ R := by omega
          clear hok hfx hQx hj hjj hHL hQ hFw
          rcases hcase with ⟨c1, c2, c3⟩ | c1 | ⟨c1, c2, c3⟩
          all_goals
            go_wp2_with fail
            have hfin : Fr (Only R) wr ((wr.setCell ⟨R, 0, none⟩ (.slice A' N c')).setCell ⟨R, 1, none⟩ (.slice Qa j qa)) := ((Fr.refl _ _).set _ _ (Or.inl (only_self _)) _).set _ _ (Or.inl (only_self _)) _
            obtain ⟨m, hv, hmok, hmp⟩ := Hok.out _ hfin
            refine bodyPost_ret (results_whole Try.results9 rfl ((hRw.set 0 _).set 1 _) Try.underlying29 rfl (by kernel_rfl)) rfl ?_
            exact ⟨m, by rw [hv]; rfl, hmok, hmp, HF.out.next hfin (fun i hi e => by have e' : i = R := e; omega)⟩
end Go.Proofs.Ytbjknkgefpeohaa
