/- Contract of Canon at a model of one object without pointers, as the example needs it. Conditions: that model, those roots. -/
import Derived.Test.YtbjknkgefpeohaaCome
namespace Go.Proofs.Ytbjknkgefpeohaa
open Go.RowKit
attribute [local go_sem ↓] Go.wp_at_zero Go.wp_at_succ

theorem index_none (v : Int) (w : World) :
    Calls Try.prog 30 #[.slice none 0 0, .int .i64 v] w fun e w' => e = .returned (.int .i64 (-1)) ∧ w' = w := by
  go_enter Try.func30, Try.ntmps30
  go_wp2_with fail
  go_loopw [8] (fun i wr => i = .int .i64 0 ∧ wr = w) (fun _ _ => 0)
  case atStart => exact ⟨rfl, rfl⟩
  case round =>
    obtain ⟨rfl, rfl⟩ := hrel
    go_wp2_with fail
    go_ret
    exact ⟨rfl, rfl⟩
theorem contains_none (v : Int) (w : World) :
    Calls Try.prog 29 #[.slice none 0 0, .int .i64 v] w fun e w' => e = .returned (.bool false) ∧ w' = w := by
  go_enter Try.func29, Try.ntmps29
  go_wp2_with (go_at_call 30; refine (index_none _ _).mono ?_; rintro e w1 ⟨rfl, rfl⟩)
  go_ret
  exact ⟨rfl, rfl⟩

/-- The list that comes in is empty: nothing is added. -/
theorem add_none (l : Option Addr) (c mc oc : Nat) (w : World) :
    Calls Try.prog 28 #[.slice l 0 c, .pointer (some ⟨mc, 0, none⟩), .pointer (some ⟨oc, 0, none⟩)] w fun e w' => e = .returned (.tuple #[]) ∧ w' = w := by
  go_enter Try.func28, Try.ntmps28
  go_wp2_with fail
  go_loopw [8] (fun i wr => i = .int .i64 0 ∧ wr = w) (fun _ _ => 0)
  case atStart => exact ⟨rfl, rfl⟩
  case round =>
    obtain ⟨rfl, rfl⟩ := hrel
    go_wp2_with fail
    go_end0
    exact ⟨rfl, rfl⟩

/-- The order behind k of the six roots. -/
def Added (oc B : Nat) (w wr : World) (k : Nat) : Prop := Fr (Only oc) w wr ∧ ((k = 0 ∧ wr = w) ∨ (0 < k ∧ ∃ A c, Whole wr oc 39 [.slice A 1 c] ∧ wr.ownsRow B 3 1 (.slice A 1 c) 1 [.int .i64 7]))

set_option maxHeartbeats 1000000 in
theorem add_first (m : RM) (mc oc rb b o : Nat) (w : World) (h : m.ok w) (hA : m.A = some ⟨b, o, none⟩) (hz : idxZ (m.ros.map (·.o.serial)) 7 = (0 : Nat)) (hor : oc ≠ rb)
    (hm : Whole w mc 29 [.slice m.A m.ros.length m.c, .slice m.Q m.qs.length m.qc]) (ho : Whole w oc 39 [.slice none 0 0]) (hr : Whole w rb 24 [.int .i64 7, .int .i64 0, .int .i64 0, .int .i64 0, .int .i64 0, .int .i64 0]) :
    Calls Try.prog 28 #[.slice (some ⟨rb, 0, none⟩) 6 6, .pointer (some ⟨mc, 0, none⟩), .pointer (some ⟨oc, 0, none⟩)] w
      fun e w' => e = .returned (.tuple #[]) ∧ Added oc w.heap.size w w' 6 := by
  have hrow := hA ▸ h.row
  have hn := h.nobjs
  have hat : ∀ W, Fr No w W → Calls Try.prog 26 #[.agg #[.slice (some ⟨b, o, none⟩) m.ros.length m.c, .slice m.Q m.qs.length m.qc], .int .i64 7] W fun e w' => e = .returned (.pointer (some ⟨b, o + 0 * 8, none⟩)) ∧ Fr No W w' := fun W hW => at_ptr m.ros b o m.c m.Q m.qs.length m.qc 7 0 W hn (hrow.no hW) hz
  have Hat := Lib.hid hat
  rw [hA] at hm
  have hol := ho.lt
  have hml := hm.lt
  have hrl := hr.lt
  clear hat hrow hn hz h hA
  generalize hK : m.ros.length = K at *
  generalize hL : m.qs.length = L at *
  clear hK hL
  go_enter Try.func28, Try.ntmps28
  go_wp2_with fail
  go_loopw [8] (fun i wr => ∃ k : Nat, k ≤ 6 ∧ i = .int .i64 k ∧ Added oc w.heap.size w wr k) (fun i _ => 6 - (intOf i).toNat)
  case atStart => exact ⟨0, by omega, rfl, Fr.refl _ _, .inl ⟨rfl, rfl⟩⟩
  case round =>
    obtain ⟨k, hk, rfl, hf, hadd⟩ := hrel
    rcases hadd with ⟨rfl, rfl⟩ | ⟨hk0, A, c, hW, hown⟩
    · have e0 := hm.cell
      have e1 := ho.cell
      have e2 := hr.cell
      have z1 := ho.frozen
      go_wp2_with (first
        | (go_at_call 26; refine (Hat.out _ (Fr.refl _ _)).mono ?_; rintro e w1 ⟨rfl, hf1⟩; have e3 := (hf1.whole ho (fun x => x)).cell; have z3 := (hf1.whole ho (fun x => x)).frozen; have e4 := (hf1.whole hr (fun x => x)).cell)
        | (go_at_call 29; refine (contains_none _ _).mono ?_; rintro e w2 ⟨rfl, rfl⟩)
        | (at_builtin; refine wpList_apps sl_int _ rfl (.tmp 26) (.tmp 28) rfl wr.heap.size (.slice none 0 0) 0 [] rfl (World.ownsRow_nil _ _ _ _) (some ⟨w2.heap.size, 0, none⟩) 1 1 [.int .i64 7] rfl (Row.of_whole (Whole.new w2 _ [.int .i64 7]) 1 1 rfl) (by simp [Value.oneCell']) (by decide) (by have := hf1.size; simp; omega) ?_; intro A3 c3 w3 hown3 hg3 hat3; have hO3 := Whole.grown ((hf1.whole ho (fun x => x)).alloc _) hg3 (by simp [Value.ownBlock]); have e5 := hO3.cell; have z5 := hO3.frozen)
        | fail)
      refine ⟨⟨1, by omega, by go_num, ?_, .inr ⟨by omega, A3, c3, hO3.set 0 _, ?_⟩⟩, by simp [intOf]⟩
      · exact (((fr_no hf1).alloc _).grown hg3 (by simp [Value.ownBlock])).set _ _ (Or.inl (only_self _)) _
      · refine own_fr hown3 ((Fr.refl (Only oc) w3).set _ _ (Or.inl (only_self _)) _) (fun g hg e => ?_)
        have e' : g = oc := e
        have := (hown3.lt g hg).1
        omega
    · by_cases hlt : k < 6
      · have c0 : wr.cell? ⟨rb, k, none⟩ = some (.int .i64 0) := by
          rw [(hf.whole hr (fun e => hor e.symm)).cell]
          match k, hk0, hlt with
          | 1, _, _ => rfl
          | 2, _, _ => rfl
          | 3, _, _ => rfl
          | 4, _, _ => rfl
          | 5, _, _ => rfl
        have i1 : (0 : Int) ≤ (k : Int) := by omega
        have i2 : (k : Int) < 6 := by omega
        go_wp2_with fail
        exact ⟨⟨k + 1, by omega, by go_num, hf, .inr ⟨by omega, A, c, hW, hown⟩⟩, by simp [intOf]; omega⟩
      · have hk6 : k = 6 := by omega
        subst hk6
        go_wp2_with fail
        go_end0
        exact ⟨rfl, hf, .inr ⟨by omega, A, c, hW, hown⟩⟩

def One (w : World) (e : Ending) (w' : World) : Prop := (∃ A c, e = .returned (.slice A 1 c)) ∧ Fr No w w'

theorem at0 {ros : List RO} {b o c qn qc : Nat} {qA : Option Addr} {t : Int} {w : World} (hl : ros.length ≤ Cap) (h : Row w 8 (some ⟨b, o, none⟩) ros.length c (rowOf ros)) (hi : idxZ (ros.map (·.o.serial)) t = (0 : Nat)) :
    ∀ W, Fr No w W → Calls Try.prog 26 #[.agg #[.slice (some ⟨b, o, none⟩) ros.length c, .slice qA qn qc], .int .i64 t] W fun e w' => e = .returned (.pointer (some ⟨b, o, none⟩)) ∧ Fr No W w' := fun W hW => by
  simpa using at_ptr ros b o c qA qn qc t 0 W hl (h.no hW) hi
theorem cells0 {ros : List RO} {r : RO} {b o n c : Nat} {w : World} (h : Row w 8 (some ⟨b, o, none⟩) n c (rowOf ros)) (hr0 : ros[0]? = some r) : ∀ W, Fr No w W → ∀ j, j < 8 → W.cell? ⟨b, o + j, none⟩ = r.cells[j]? := fun W hW j hj => by
  simpa using obj_cells (h.no hW) hr0 j hj

set_option maxHeartbeats 1000000 in
theorem canon_one (m : RM) (r : RO) (rb b o : Nat) (w : World) (h : m.ok w) (hA : m.A = some ⟨b, o, none⟩) (hr0 : m.ros[0]? = some r) (hz : idxZ (m.ros.map (·.o.serial)) 7 = (0 : Nat)) (hp : r.o.ptrs = []) (hw : r.o.weak = false) (hr : Whole w rb 24 [.int .i64 7, .int .i64 0, .int .i64 0, .int .i64 0, .int .i64 0, .int .i64 0]) :
    Calls Try.prog 17 #[m.val, .slice (some ⟨rb, 0, none⟩) 6 6] w (One w) := by
  have hrow := hA ▸ h.row
  have hn := h.nobjs
  have hrok := h.objs r (List.mem_of_getElem? hr0)
  obtain ⟨pA, pc, nA, nc, eP, eN, rP, rN, cP, cN⟩ := hrok
  have hrl := hr.lt
  have Hat := Lib.hid (at0 (qA := m.Q) (qn := m.qs.length) (qc := m.qc) hn hrow hz)
  have Hadd := Lib.hid fun W (hW : Fr No w W) mc oc (h1 : oc ≠ rb) h2 h3 => add_first m mc oc rb b o W (h.no hW) hA hz h1 h2 h3 (hW.whole hr (fun x => x))
  have Hcs := Lib.hid (cells0 hrow hr0)
  have Hfr := Lib.hid fun W (hW : Fr No w W) => fresh_out r W ((h.objs r (List.mem_of_getElem? hr0)).no hW)
  simp only [RM.val]
  have one1 : ∀ A c W, Fr No w W → One w (.returned (.slice A 1 c)) W := fun A c W hW => ⟨⟨A, c, rfl⟩, hW⟩
  have HP := Lib.hid one1
  rw [hA] at Hadd
  rw [hA]
  clear hrow hn rP rN cP cN one1 h hA hz hr0
  generalize One w = Post at *
  generalize m.ros.length = K at *
  generalize m.qs.length = L at *
  rw [hp] at eP
  go_enter Try.func17, Try.ntmps17
  go_wp2_with fail
  have hM := (Whole.new w 29 [.slice (some ⟨b, o, none⟩) K m.c, .slice m.Q L m.qc]).alloc (.cells (#[.slice none 0 0] : Array Value) 39)
  have hO := Whole.new1 w 39 [.slice none 0 0] (.cells (#[.slice (some ⟨b, o, none⟩) K m.c, .slice m.Q L m.qc] : Array Value) 29)
  have hF0 : Fr No w ((w.alloc (.cells (#[.slice (some ⟨b, o, none⟩) K m.c, .slice m.Q L m.qc] : Array Value) 29)).alloc (.cells (#[.slice none 0 0] : Array Value) 39)) := ((Fr.refl _ _).alloc _).alloc _
  refine (Hadd.out _ hF0 w.heap.size (w.heap.size + 1) (by omega) hM hO).mono ?_
  rintro e w1 ⟨rfl, hf1, hadd⟩
  rcases hadd with ⟨h6, -⟩ | ⟨-, A1, c1, hO1, hown1⟩
  · omega
  have hM1 := hf1.whole hM (fun e => by have e' : w.heap.size = w.heap.size + 1 := e; omega)
  have hF1 : Fr No w w1 := hF0.next hf1 (fun i hi e => by have e' : i = w.heap.size + 1 := e; omega)
  have hrow1 := Row.of_own hown1
  obtain ⟨g1, o1, rfl, hg1, hc1⟩ := hrow1.2.2 (by decide)
  have k1 : w1.cell? ⟨g1, o1, none⟩ = some (.int .i64 7) := hc1 0 _ rfl
  have l1 := hM1.lt
  have l2 := hO1.lt
  have HC1 := Lib.hid fun W (hW : Fr No w1 W) => hW.cell (p := ⟨g1, o1, none⟩) hg1 (fun x => x)
  clear hc1 hrow1 hown1 hf1 hF0 hM hO
  go_wp2_with fail
  go_loopw [7, 8] (fun i _ wr => ∃ k : Nat, k ≤ 1 ∧ i = .int .i64 k ∧ Fr No w1 wr) (fun i _ _ => 1 - (intOf i).toNat)
  case atStart => exact ⟨0, by omega, rfl, Fr.refl _ _⟩
  case round =>
    obtain ⟨k, hk, rfl, hf⟩ := hrel
    have e0 := (hf.whole hM1 (fun x => x)).cell
    have e1 := (hf.whole hO1 (fun x => x)).cell
    have e2 := (HC1.out wr hf).trans k1
    have hF := hF1.trans hf
    have hl := hf.size
    have hl1 : w.heap.size < wr.heap.size := by omega
    have hl2 : w.heap.size + 1 < wr.heap.size := by omega
    by_cases hlt : k = 0
    · subst hlt
      go_wp2_with fail
      go_region_held3 (fun w' => (∀ i, w'.cell? ⟨w.heap.size, i, none⟩ = ([.slice (some ⟨b, o, none⟩) K m.c, .slice m.Q L m.qc] : List Value)[i]?) ∧ (∀ i, w'.cell? ⟨w.heap.size + 1, i, none⟩ = ([.slice (some ⟨g1, o1, none⟩) 1 c1] : List Value)[i]?) ∧ w'.cell? ⟨g1, o1, none⟩ = some (.int .i64 7)) (first | go_keep | exact ⟨e4, e5, e6⟩) ((go_at_call 26; refine (Hat.out _ hF.drew).mono ?_; rintro e w2 ⟨rfl, hf2⟩; have hf12 := hf.drew.trans hf2; have e4 := (hf12.whole hM1 (fun x => x)).cell; have e5 := (hf12.whole hO1 (fun x => x)).cell; have e6 := (HC1.out w2 hf12).trans k1))
      have hF2 := hF1.trans hf12
      have hcs := Hcs.out w2 hF2
      have d3 : w2.cell? ⟨b, o + 3, none⟩ = some (.bool false) := hw ▸ hcs 3 (by decide)
      have d5 : w2.cell? ⟨b, o + 5, none⟩ = some (.slice pA 0 pc) := (hcs 5 (by decide)).trans (by show some r.P = _; rw [eP]; rfl)
      clear hcs e0 e1 e2
      go_wp2_with (go_at_call 28; refine (add_none _ _ _ _ _).mono ?_; rintro e w3 ⟨rfl, rfl⟩)
      exact ⟨⟨1, by omega, by go_num, hf12⟩, by simp [intOf]⟩
    · have hk1 : (k : Int) = 1 := by omega
      rw [hk1]
      clear hlt hk1
      go_wp2_with fail
      go_loopw [4, 45] (fun v i wr => ∃ k : Nat, k ≤ 1 ∧ i = .int .i64 k ∧ Fr No w1 wr ∧ ((k = 0 ∧ v = .slice none 0 0) ∨ (k = 1 ∧ ∃ A c, v = .slice A 1 c))) (fun _ i _ => 1 - (intOf i).toNat)
      case atStart => exact ⟨0, by omega, rfl, hf, .inl ⟨rfl, rfl⟩⟩
      case round =>
        obtain ⟨k, hk, rfl, hf, hv⟩ := hrel
        rcases hv with ⟨rfl, rfl⟩ | ⟨rfl, A, c, rfl⟩
        · have e0 := (hf.whole hM1 (fun x => x)).cell
          have e2 := (HC1.out wr hf).trans k1
          have hF := hF1.trans hf
          have hl := hf.size
          have hl1 : w.heap.size < wr.heap.size := by omega
          go_wp2_with fail
          refine (Hat.out wr hF).mono ?_
          rintro e w2 ⟨rfl, hf2⟩
          have hF2 := hF.trans hf2
          have hcs := Hcs.out w2 hF2
          have d0 : w2.cell? ⟨b, o, none⟩ = some (.int .i64 r.o.serial) := hcs 0 (by decide)
          have d1 : w2.cell? ⟨b, o + 1, none⟩ = some (.int .i64 r.o.np) := hcs 1 (by decide)
          have d2 : w2.cell? ⟨b, o + 2, none⟩ = some (.int .i64 r.o.nd) := hcs 2 (by decide)
          have d3 : w2.cell? ⟨b, o + 3, none⟩ = some (.bool r.o.weak) := hcs 3 (by decide)
          have d4 : w2.cell? ⟨b, o + 4, none⟩ = some (.bool r.o.fin) := hcs 4 (by decide)
          have d5 : w2.cell? ⟨b, o + 5, none⟩ = some r.P := hcs 5 (by decide)
          have d6 : w2.cell? ⟨b, o + 6, none⟩ = some r.N := hcs 6 (by decide)
          have d7 : w2.cell? ⟨b, o + 7, none⟩ = some (.bool r.o.freed) := hcs 7 (by decide)
          have HE := Lib.hid (And.intro eP eN)
          clear hcs e0 e2 hw eP eN
          go_wp2_with fail
          refine (Hfr.out w2 hF2).mono ?_
          rintro e w3 ⟨A2, c2, A3, c3, rfl, -, -, hf3⟩
          have hF3 := hF2.trans hf3
          have HF13 := Lib.hid (hf.trans (hf2.trans hf3))
          have hpl : r.o.ptrs.length = 0 := by rw [hp]; rfl
          have hn0 : ((0 : Nat) : Int) = 0 := rfl
          rw [hpl]
          clear d0 d1 d2 d3 d4 d5 d6 d7 hp hpl
          go_wp2_with fail
          refine gen_world _ (fun W => Whole W w3.heap.size 41 [.int .i64 r.o.serial, .int .i64 r.o.np, .int .i64 r.o.nd, .bool r.o.weak, .bool r.o.fin, .slice A2 0 c2, .slice A3 r.o.nums.length c3, .bool r.o.freed] ∧ Fr No w3 W) ⟨Whole.new w3 41 [.int .i64 r.o.serial, .int .i64 r.o.np, .int .i64 r.o.nd, .bool r.o.weak, .bool r.o.fin, .slice A2 0 c2, .slice A3 r.o.nums.length c3, .bool r.o.freed], (Fr.refl _ _).alloc _⟩ ?_
          rintro W3 ⟨hW3, hf33⟩
          go_loopw [58] (fun i wr => i = .int .i64 0 ∧ wr = W3) (fun _ _ => 0)
          case atStart => exact ⟨rfl, rfl⟩
          case round =>
            obtain ⟨rfl, rfl⟩ := hrel
            have e3 := hW3.cell
            have l3 := hW3.lt
            go_wp2_with fail
            go_roundw
            case rel =>
              exact ⟨1, by omega, by go_num, (HF13.out.trans hf33).trans ((((Fr.refl No wr).alloc _).alloc _).drew), .inr ⟨rfl, _, _, rfl⟩⟩
            case measure => simp [intOf]
        · go_wp2_with fail
          exact HP.out _ _ _ (hF1.trans hf)
end Go.Proofs.Ytbjknkgefpeohaa
