/- Contract of Find. Conditions: a model that can be read. -/
import Derived.Test.YtbjknkgefpeohaaState
import Derived.Laws.ResultCell
namespace Go.Proofs.Ytbjknkgefpeohaa
open Go.RowKit
attribute [local go_sem ↓] Go.wp_at_zero Go.wp_at_succ

/-- A result in memory, one in a slot. -/
theorem results_one {P : Program} {fn : Func} {p u : Tmp} {ty : TypeId} (h : fn.results = #[.cell p ty, .tmp u]) {tmps : Array Value} {w : World} {g : Nat} {t : TypeId} {cs : List Value} {d : TypeDesc}
    (hp : tmps.getD p undef = .pointer (some ⟨g, 0, none⟩)) (hg : Whole w g t cs) (hu : P.underlying ty = some d) (hd : (match d with | .struct _ | .array _ _ => true | _ => false) = true) (hi : (P.info? ty).map (·.size) = some cs.length) :
    (results fn tmps).run P w = .ok (.tuple #[.agg cs.toArray, tmps.getD u undef]) w := by
  have hp' : tmps[p]?.getD undef = .pointer (some ⟨g, 0, none⟩) := by simpa using hp
  simp [results, h, hp', asAddr, run_loadVar_row w g t ty cs.toArray (0, 0) d hg hu hd (by simpa using hi)]

/-- An object that can be read, none of whose lists is written out. -/
def zeroRO : RO := ⟨⟨0, 0, 0, false, false, [], [], false⟩, .slice none 0 0, .slice none 0 0⟩
def Found (m : RM) (s : Int) (w : World) (e : Ending) (w' : World) : Prop := Fr No w w' ∧
  ((idxZ (m.ros.map (·.o.serial)) s = -1 ∧ e = .returned (.tuple #[.agg zeroRO.cells.toArray, .bool false])) ∨
   (∃ i r, ∃ r' : RO, idxZ (m.ros.map (·.o.serial)) s = (i : Nat) ∧ m.ros[i]? = some r ∧ r'.o = r.o ∧ r'.ok w' ∧ e = .returned (.tuple #[.agg r'.cells.toArray, .bool true])))

set_option maxHeartbeats 1000000 in
theorem find_calls (m : RM) (s : Int) (w : World) (h : m.ok w) :
    Calls Try.prog 15 #[m.val, .int .i64 s] w (Found m s w) := by
  rcases idxZ_cases (m.ros.map (·.o.serial)) s with ⟨hz, hall⟩ | ⟨i, hi, hz, hat, -⟩
  · have hat' : ∀ W, Fr No w W → Calls Try.prog 26 #[.agg #[.slice m.A m.ros.length m.c, .slice m.Q m.qs.length m.qc], .int .i64 s] W fun e w' => e = .returned (.pointer none) ∧ Fr No W w' := fun W hW => at_nil m.ros m.A m.c m.Q m.qs.length m.qc s W h.nobjs (h.row.no hW) hz
    have Hat := Lib.hid hat'
    have hP : ∀ w', Fr No w w' → Found m s w (.returned (.tuple #[.agg zeroRO.cells.toArray, .bool false])) w' := fun w' hw => ⟨hw, .inl ⟨hz, rfl⟩⟩
    have HP := Lib.hid hP
    clear hat' hP hz hall h
    generalize Found m s w = Post at *
    simp only [RM.val]
    go_enter Try.func15, Try.ntmps15
    go_wp2_with (go_at_call 26; refine (Hat.out _ (((Fr.refl _ _).alloc _).alloc _)).mono ?_; rintro e w1 ⟨rfl, hf1⟩; have hR := hf1.whole (Whole.new1 w 41 [.int .i64 0, .int .i64 0, .int .i64 0, .bool false, .bool false, .slice none 0 0, .slice none 0 0, .bool false] _) (fun x => x); have er := hR.cell; have zr := hR.frozen)
    refine bodyPost_ret (results_one Try.results15 rfl ((((((((hR.set 0 _).set 1 _).set 2 _).set 3 _).set 4 _).set 5 _).set 6 _).set 7 _) Try.underlying41 rfl (by kernel_rfl)) rfl ?_
    exact HP.out _ ((((((((((((Fr.refl _ _).alloc _).alloc _).trans hf1).set _ _ (Or.inr (Nat.le_succ _)) _).set _ _ (Or.inr (Nat.le_succ _)) _).set _ _ (Or.inr (Nat.le_succ _)) _).set _ _ (Or.inr (Nat.le_succ _)) _).set _ _ (Or.inr (Nat.le_succ _)) _).set _ _ (Or.inr (Nat.le_succ _)) _).set _ _ (Or.inr (Nat.le_succ _)) _).set _ _ (Or.inr (Nat.le_succ _)) _)
  · have hil : i < m.ros.length := by simpa using hi
    obtain ⟨r, hr⟩ : ∃ r, m.ros[i]? = some r := ⟨_, List.getElem?_eq_getElem hil⟩
    obtain ⟨b, o, hA, hbl, -⟩ := h.row.2.2 (by omega)
    have hrow := hA ▸ h.row
    have hat' : ∀ W, Fr No w W → Calls Try.prog 26 #[.agg #[.slice (some ⟨b, o, none⟩) m.ros.length m.c, .slice m.Q m.qs.length m.qc], .int .i64 s] W fun e w' => e = .returned (.pointer (some ⟨b, o + i * 8, none⟩)) ∧ Fr No W w' := fun W hW => at_ptr m.ros b o m.c m.Q m.qs.length m.qc s i W h.nobjs (hrow.no hW) hz
    have hcs := obj_cells hrow hr
    have Hcs := Lib.hid (fun W (hW : Fr No w W) => obj_cells (hrow.no hW) hr)
    have Hat := Lib.hid hat'
    have hrk := h.objs r (List.mem_of_getElem? hr)
    have Hk := Lib.hid (fun W (hW : Fr No w W) => fresh_out r W (hrk.no hW))
    have hone : ([.int .i64 r.o.serial, .int .i64 r.o.np, .int .i64 r.o.nd, .bool r.o.weak, .bool r.o.fin, r.P, r.N, .bool r.o.freed] : List Value).all Value.oneCell' = true := by
      obtain ⟨_, _, _, _, h1, h2, _⟩ := hrk
      rw [h1, h2]; rfl
    have hcap : r.o.ptrs.length ≤ Cap ∧ r.o.nums.length ≤ Cap := by
      obtain ⟨_, _, _, _, _, _, _, _, c1, c2⟩ := hrk
      exact ⟨c1, c2⟩
    have hP : ∀ (r' : RO) w', r'.o = r.o → Fr No w w' → r'.ok w' → Found m s w (.returned (.tuple #[.agg r'.cells.toArray, .bool true])) w' := fun r' w' he hw hok => ⟨hw, .inr ⟨i, r, r', hz, hr, he, hok, rfl⟩⟩
    have HP := Lib.hid hP
    clear hat' hP hz h hat hrow hcs hrk hr hi
    generalize Found m s w = Post at *
    simp only [RM.val]
    rw [hA]
    clear hA
    go_enter Try.func15, Try.ntmps15
    go_wp2_with (go_at_call 26; refine (Hat.out _ (((Fr.refl _ _).alloc _).alloc _)).mono ?_; rintro e w1 ⟨rfl, hf1⟩; have hF1 := (((Fr.refl No w).alloc _).alloc _).trans hf1; have hcs1 := Hcs.out w1 hF1; have d0 : w1.cell? ⟨b, o + i * 8, none⟩ = some (.int .i64 r.o.serial) := hcs1 0 (by decide); have d1 : w1.cell? ⟨b, o + i * 8 + 1, none⟩ = some (.int .i64 r.o.np) := hcs1 1 (by decide); have d2 : w1.cell? ⟨b, o + i * 8 + 2, none⟩ = some (.int .i64 r.o.nd) := hcs1 2 (by decide); have d3 : w1.cell? ⟨b, o + i * 8 + 3, none⟩ = some (.bool r.o.weak) := hcs1 3 (by decide); have d4 : w1.cell? ⟨b, o + i * 8 + 4, none⟩ = some (.bool r.o.fin) := hcs1 4 (by decide); have d5 : w1.cell? ⟨b, o + i * 8 + 5, none⟩ = some r.P := hcs1 5 (by decide); have d6 : w1.cell? ⟨b, o + i * 8 + 6, none⟩ = some r.N := hcs1 6 (by decide); have d7 : w1.cell? ⟨b, o + i * 8 + 7, none⟩ = some (.bool r.o.freed) := hcs1 7 (by decide); clear hcs1)
    refine (Hk.out w1 hF1).mono ?_
    rintro e w2 ⟨A1, c1, A2, c2, rfl, hown, hnd, hf2⟩
    have hR1 := hf1.whole (Whole.new1 w 41 [.int .i64 0, .int .i64 0, .int .i64 0, .bool false, .bool false, .slice none 0 0, .slice none 0 0, .bool false] _) (fun x => x)
    have hR2 := hf2.whole hR1 (fun x => x)
    have er := hR2.cell
    have zr := hR2.frozen
    have hl1 := hR1.lt
    have HF2 := Lib.hid (hF1.trans hf2)
    have Hown := Lib.hid hown
    clear hown hf2 hf1 hF1 hone hbl d0 d1 d2 d3 d4 d5 d6 d7
    go_wp2_with fail
    refine gen_exit _ (fun X => Whole X (w.heap.size + 1) 41 [.int .i64 r.o.serial, .int .i64 r.o.np, .int .i64 r.o.nd, .bool r.o.weak, .bool r.o.fin, .slice A1 r.o.ptrs.length c1, .slice A2 r.o.nums.length c2, .bool r.o.freed] ∧ Fr (Only (w.heap.size + 1)) w2 X) ⟨(((((((hR2.set 0 _).set 1 _).set 2 _).set 3 _).set 4 _).set 5 _).set 6 _).set 7 _, (((((((((Fr.refl _ _)).set _ _ (Or.inl (only_self _)) _).set _ _ (Or.inl (only_self _)) _).set _ _ (Or.inl (only_self _)) _).set _ _ (Or.inl (only_self _)) _).set _ _ (Or.inl (only_self _)) _).set _ _ (Or.inl (only_self _)) _).set _ _ (Or.inl (only_self _)) _).set _ _ (Or.inl (only_self _)) _⟩ ?_
    rintro X ⟨hX, hfin⟩
    refine bodyPost_ret (results_one Try.results15 rfl hX Try.underlying41 rfl (by kernel_rfl)) rfl ?_
    exact HP.out ⟨r.o, .slice A1 r.o.ptrs.length c1, .slice A2 r.o.nums.length c2⟩ _ rfl (HF2.out.next hfin (fun k hk e => by have e' : k = w.heap.size + 1 := e; omega)) ((Hown.out.fr hfin (fun k hk e => by have e' : k = w.heap.size + 1 := e; have := (Hown.out.lt k hk).1; omega)).ok hcap)
end Go.Proofs.Ytbjknkgefpeohaa
