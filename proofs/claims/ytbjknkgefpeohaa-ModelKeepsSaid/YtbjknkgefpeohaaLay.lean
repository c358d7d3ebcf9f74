/- Contracts of lay and weak. Conditions: registers in their bounds, lists shorter than 2^40. -/
import Derived.Test.YtbjknkgefpeohaaTake
import Derived.Deep.DeepFit
import Derived.Deep.CutBlock
namespace Go.Proofs.Ytbjknkgefpeohaa
open Go.RowKit
attribute [local go_sem ↓] Go.wp_at_zero Go.wp_at_succ

/-- What lay leaves: it may not be laid, or it is laid behind the others. -/
def Laid (g B : Nat) (x : DX) (o : RO) (w : World) (e : Ending) (w' : World) : Prop :=
  ((x.f < 1 ∨ ∃ p ∈ x.m.ros.map RO.o, p.serial = x.f) ∧ e = .returned (.int .i64 1) ∧ Fr No w w') ∨
  (1 ≤ x.f ∧ (∀ p ∈ x.m.ros.map RO.o, p.serial ≠ x.f) ∧ e = .returned (.int .i64 0) ∧ ∃ A' c',
    Whole w' g 59 (DX.cells { x with m := { x.m with A := A', c := c', ros := x.m.ros ++ [⟨{ o.o with serial := x.f }, o.P, o.N⟩] }, r := x.r.set x.d.a.toNat x.f, t := x.f }) ∧
    w'.ownsRow B 41 8 (.slice A' (x.m.ros.length + 1) c') (x.m.ros.length + 1) (rowOf (x.m.ros ++ [⟨{ o.o with serial := x.f }, o.P, o.N⟩])) ∧
    ((Value.slice A' (x.m.ros.length + 1) c').ownBlock = (Value.slice x.m.A x.m.ros.length x.m.c).ownBlock ∨ ∃ k, w.heap.size ≤ k ∧ (Value.slice A' (x.m.ros.length + 1) c').ownBlock = some k) ∧
    Fr (fun k => k = g ∨ (Value.slice x.m.A x.m.ros.length x.m.c).ownBlock = some k) w w')

set_option maxHeartbeats 2000000 in
theorem lay_calls (g B : Nat) (x : DX) (o : RO) (w : World) (h : Whole w g 59 x.cells) (hl : x.r.length = 6) (hB : B ≤ w.heap.size) (hown : w.ownsRow B 41 8 (.slice x.m.A x.m.ros.length x.m.c) x.m.ros.length (rowOf x.m.ros))
    (hng : (Value.slice x.m.A x.m.ros.length x.m.c).ownBlock ≠ some g) (hn : x.m.ros.length + 1 ≤ Cap) (h0 : 0 ≤ x.d.a) (h1 : x.d.a ≤ 5) (ho : o.form) :
    Calls Try.prog 36 #[.pointer (some ⟨g, 0, none⟩), .agg #[.int .i64 o.o.serial, .int .i64 o.o.np, .int .i64 o.o.nd, .bool o.o.weak, .bool o.o.fin, o.P, o.N, .bool o.o.freed]] w (Laid g B x o w) := by
  have c5 : w.cell? ⟨g, 5, none⟩ = some (.slice x.m.A x.m.ros.length x.m.c) := h.cell 5
  have c6 : w.cell? ⟨g, 6, none⟩ = some (.slice x.m.Q x.m.qs.length x.m.qc) := h.cell 6
  have c13 : w.cell? ⟨g, 13, none⟩ = some (.int .i64 x.f) := h.cell 13
  have hgl := h.lt
  have hrow := Row.of_own hown
  generalize hPost : Laid g B x o w = Post
  have hP1 : (x.f < 1 ∨ ∃ p ∈ x.m.ros.map RO.o, p.serial = x.f) → ∀ w', Fr No w w' → Post (.returned (.int .i64 1)) w' := fun hh w' hw => hPost ▸ .inl ⟨hh, rfl, hw⟩
  by_cases hf : x.f < 1
  · have HP := Lib.hid (hP1 (.inl hf))
    clear hP1 hPost h hown hng hrow
    generalize x.f = f at *
    go_enter Try.func36, Try.ntmps36
    go_wp2_with fail
    go_quiet (fail)
    go_wp2
    exact HP.out _ (((Fr.refl _ _).alloc _).drewN _)
  · have hf' : (x.f < 1) = False := by simpa using hf
    have hge : 1 ≤ x.f := by omega
    rcases idxZ_cases (x.m.ros.map (·.o.serial)) x.f with ⟨hz, hall⟩ | ⟨i, hi, hz, hat, -⟩
    · have hat' : ∀ W, Fr No w W → Calls Try.prog 26 #[.agg #[.slice x.m.A x.m.ros.length x.m.c, .slice x.m.Q x.m.qs.length x.m.qc], .int .i64 x.f] W fun e w' => e = .returned (.pointer none) ∧ Fr No W w' := fun W hW => at_nil x.m.ros x.m.A x.m.c x.m.Q x.m.qs.length x.m.qc x.f W (by omega) (hrow.no hW) hz
      have Hat := Lib.hid hat'
      have hP2 : ∀ A' c' w', Whole w' g 59 (DX.cells { x with m := { x.m with A := A', c := c', ros := x.m.ros ++ [⟨{ o.o with serial := x.f }, o.P, o.N⟩] }, r := x.r.set x.d.a.toNat x.f, t := x.f }) →
          w'.ownsRow B 41 8 (.slice A' (x.m.ros.length + 1) c') (x.m.ros.length + 1) (rowOf (x.m.ros ++ [⟨{ o.o with serial := x.f }, o.P, o.N⟩])) →
          ((Value.slice A' (x.m.ros.length + 1) c').ownBlock = (Value.slice x.m.A x.m.ros.length x.m.c).ownBlock ∨ ∃ k, w.heap.size ≤ k ∧ (Value.slice A' (x.m.ros.length + 1) c').ownBlock = some k) →
          Fr (fun k => k = g ∨ (Value.slice x.m.A x.m.ros.length x.m.c).ownBlock = some k) w w' → Post (.returned (.int .i64 0)) w' := fun A' c' w' q1 q2 q3 q4 => hPost ▸ .inr ⟨hge, fun p hp => by
            obtain ⟨r, hr, rfl⟩ := List.mem_map.1 hp
            exact hall _ (List.mem_map_of_mem hr), rfl, A', c', q1, q2, q3, q4⟩
      have HP := Lib.hid hP2
      have Ht := Lib.hid (fun (y : DX) (W : World) (e1 : y.r.length = 6) (e2 : y.d = x.d) (hW : Whole W g 59 y.cells) => tell_calls g y x.f W hW e1 (e2 ▸ h0) (e2 ▸ h1))
      have hF0 : Fr No w (w.alloc (.cells ([.int .i64 o.o.serial, .int .i64 o.o.np, .int .i64 o.o.nd, .bool o.o.weak, .bool o.o.fin, o.P, o.N, .bool o.o.freed]).toArray 41)) := (Fr.refl _ _).alloc _
      have hone : ([.int .i64 o.o.serial, .int .i64 o.o.np, .int .i64 o.o.nd, .bool o.o.weak, .bool o.o.fin, o.P, o.N, .bool o.o.freed] : List Value).all Value.oneCell' = true := by
        obtain ⟨_, _, _, _, e1, e2⟩ := ho
        rw [e1, e2]; rfl
      have hS0 := Whole.new w 41 [.int .i64 o.o.serial, .int .i64 o.o.np, .int .i64 o.o.nd, .bool o.o.weak, .bool o.o.fin, o.P, o.N, .bool o.o.freed]
      have hlt0 : ∀ k, (Value.slice x.m.A x.m.ros.length x.m.c).ownBlock = some k → k < w.heap.size := fun k hk => (hown.lt k hk).2
      have hG0 := hF0.whole h (fun x => x)
      have hO0 := own_fr hown hF0 (fun _ _ x => x)
      clear hP1 hP2 hPost h hown hrow hat' hz hf hall
      generalize hxf : x.f = f at *
      go_enter Try.func36, Try.ntmps36
      go_wp2_with fail
      refine gen_world _ (fun W => Fr No w W ∧ Whole W w.heap.size 41 [.int .i64 o.o.serial, .int .i64 o.o.np, .int .i64 o.o.nd, .bool o.o.weak, .bool o.o.fin, o.P, o.N, .bool o.o.freed] ∧ Whole W g 59 x.cells ∧ W.ownsRow B 41 8 (.slice x.m.A x.m.ros.length x.m.c) x.m.ros.length (rowOf x.m.ros)) ⟨hF0, hS0, hG0, hO0⟩ ?_
      clear hF0 hS0 hG0 hO0 c5 c6 c13
      rintro W ⟨hF0, hS0, hG0, hO0⟩
      have c5 : W.cell? ⟨g, 5, none⟩ = some (.slice x.m.A x.m.ros.length x.m.c) := hG0.cell 5
      have c6 : W.cell? ⟨g, 6, none⟩ = some (.slice x.m.Q x.m.qs.length x.m.qc) := hG0.cell 6
      have c13 : W.cell? ⟨g, 13, none⟩ = some (.int .i64 f) := hxf ▸ hG0.cell 13
      have hgW := hG0.lt
      go_region_held3 (fun w' => w'.cell? ⟨g, 5, none⟩ = some (.slice x.m.A x.m.ros.length x.m.c) ∧ w'.cell? ⟨g, 6, none⟩ = some (.slice x.m.Q x.m.qs.length x.m.qc) ∧ w'.cell? ⟨g, 13, none⟩ = some (.int .i64 f)) (first | go_keep | exact ⟨k1, k2, k3⟩) ((go_at_call 26; refine (Hat.out _ hF0.drew).mono ?_; rintro e w1 ⟨rfl, hf1⟩; have k1 := (hf1.cell (p := ⟨g, 5, none⟩) hgW (fun x => x)).trans c5; have k2 := (hf1.cell (p := ⟨g, 6, none⟩) hgW (fun x => x)).trans c6; have k3 := (hf1.cell (p := ⟨g, 13, none⟩) hgW (fun x => x)).trans c13))
      have hS1 := hf1.whole hS0.drew (fun x => x)
      have hG1 := hf1.whole hG0.drew (fun x => x)
      have hO1 := own_fr (w := W.drew) hO0 hf1 (fun _ _ x => x)
      have e1 := hS1.cell 0
      have z1 := hS1.frozen 0
      simp only [List.getElem?_cons_zero] at e1
      clear c5 c6 c13
      go_upto_region 4 with (fail)
      have hne : g ≠ w.heap.size := by omega
      refine gen_world _ (fun W2 => Fr No w W2 ∧ Whole W2 w.heap.size 41 [.int .i64 f, .int .i64 o.o.np, .int .i64 o.o.nd, .bool o.o.weak, .bool o.o.fin, o.P, o.N, .bool o.o.freed] ∧ Whole W2 g 59 x.cells ∧ W2.ownsRow B 41 8 (.slice x.m.A x.m.ros.length x.m.c) x.m.ros.length (rowOf x.m.ros))
        ⟨(hF0.drew.trans hf1).set _ _ (Or.inr (Nat.le_refl _)) _, hS1.set 0 _, hG1.far (by exact hne) _, own_fr hO1 ((Fr.refl (Only w.heap.size) w1).set _ _ (Or.inl (only_self _)) _) ?_⟩ ?_
      · intro k hk
        have := hlt0 k hk
        simp only [Only]
        omega
      rintro W2 ⟨hF2, hS2, hG2, hO2⟩
      have c5 : W2.cell? ⟨g, 5, none⟩ = some (.slice x.m.A x.m.ros.length x.m.c) := hG2.cell 5
      have z5 := hG2.frozen 5
      have eS := hS2.cell
      clear hf1 hF0 hS0 hG0 hO0 hS1 hG1 hO1 e1 z1 k1 k2 k3
      have hone2 : ∀ u ∈ ([.int .i64 f, .int .i64 o.o.np, .int .i64 o.o.nd, .bool o.o.weak, .bool o.o.fin, o.P, o.N, .bool o.o.freed] : List Value), u.oneCell' = true := by
        obtain ⟨_, _, _, _, e1, e2⟩ := ho
        rw [e1, e2]; intro u hu; simp at hu; rcases hu with rfl | rfl | rfl | rfl | rfl | rfl | rfl | rfl <;> rfl
      have hB2 : B ≤ W2.heap.size := by have := hF2.size; omega
      have hFa : Fr No W2 ((W2.alloc (.cells ([.int .i64 f, .int .i64 o.o.np, .int .i64 o.o.nd, .bool o.o.weak, .bool o.o.fin, o.P, o.N, .bool o.o.freed]).toArray 41)).drew) := ((Fr.refl _ _).alloc _).drew
      have hOa := own_fr hO2 hFa (fun _ _ x => x)
      have hRa : Row ((W2.alloc (.cells ([.int .i64 f, .int .i64 o.o.np, .int .i64 o.o.nd, .bool o.o.weak, .bool o.o.fin, o.P, o.N, .bool o.o.freed]).toArray 41)).drew) 8 (some ⟨W2.heap.size, 0, none⟩) 1 1 [.int .i64 f, .int .i64 o.o.np, .int .i64 o.o.nd, .bool o.o.weak, .bool o.o.fin, o.P, o.N, .bool o.o.freed] := Row.of_whole (Whole.new W2 41 [.int .i64 f, .int .i64 o.o.np, .int .i64 o.o.nd, .bool o.o.weak, .bool o.o.fin, o.P, o.N, .bool o.o.freed]).drew 8 1 rfl
      have hBa : B ≤ ((W2.alloc (.cells ([.int .i64 f, .int .i64 o.o.np, .int .i64 o.o.nd, .bool o.o.weak, .bool o.o.fin, o.P, o.N, .bool o.o.freed]).toArray 41)).drew).heap.size := Nat.le_trans hB2 hFa.size
      have hGa := hFa.whole hG2 (fun x => x)
      have hGn : ∀ w3 : World, ((W2.alloc (.cells ([.int .i64 f, .int .i64 o.o.np, .int .i64 o.o.nd, .bool o.o.weak, .bool o.o.fin, o.P, o.N, .bool o.o.freed]).toArray 41)).drew).grownBy w3 (Value.slice x.m.A x.m.ros.length x.m.c).ownBlock → Whole w3 g 59 x.cells := fun w3 hg3 => hGa.grown hg3 (fun e => hng e.symm)
      have HGn := Lib.hid hGn
      clear hGn
      have ca5 : ∀ ob : Obj, (W2.alloc ob).cell? ⟨g, 5, none⟩ = some (.slice x.m.A x.m.ros.length x.m.c) := fun ob => (hG2.alloc ob).cell 5
      go_region_law ((refine step_apps sl_obj _ (by rfl) _ _ (by rfl) B (.slice x.m.A x.m.ros.length x.m.c) x.m.ros.length (rowOf x.m.ros) (by rfl) hOa (some ⟨W2.heap.size, 0, none⟩) 1 1 [.int .i64 f, .int .i64 o.o.np, .int .i64 o.o.nd, .bool o.o.weak, .bool o.o.fin, o.P, o.N, .bool o.o.freed] (by rfl) hRa hone2 hn hBa ?_; intro A3 c3 w3 hown3 hg3 hat3; have hG3 := HGn.out w3 hg3; have c5' : w3.cell? ⟨g, 5, none⟩ = some (.slice x.m.A x.m.ros.length x.m.c) := hG3.cell 5; have z5' := hG3.frozen 5; have c13' : w3.cell? ⟨g, 13, none⟩ = some (.int .i64 f) := hxf ▸ hG3.cell 13))
      all_goals
        have hF3 : Fr (fun k => k = g ∨ (Value.slice x.m.A x.m.ros.length x.m.c).ownBlock = some k) w w3 := (hF2.mono (fun _ _ h => h.elim)).next ((hFa.mono (G := fun k => (Value.slice x.m.A x.m.ros.length x.m.c).ownBlock = some k) (fun _ _ h => h.elim)).grown hg3 (fun k hk => .inl hk)) (fun _ _ h => .inr h)
        have hw4 : Whole (w3.setCell ⟨g, 5, none⟩ (.slice A3 (x.m.ros.length + 1) c3)) g 59 (DX.cells { x with m := { x.m with A := A3, c := c3, ros := x.m.ros ++ [⟨{ o.o with serial := f }, o.P, o.N⟩] } }) := by
          have := hG3.set 5 (.slice A3 (x.m.ros.length + 1) c3)
          have e : x.m.ros.length + 1 = (x.m.ros ++ [(⟨{ o.o with serial := f }, o.P, o.N⟩ : RO)]).length := by simp
          rw [e] at this ⊢
          exact this
        have Hw4 := Lib.hid hw4
        have HF3 := Lib.hid hF3
        have Hown3 := Lib.hid hown3
        have hsz : W2.heap.size ≥ w.heap.size := hF2.size
        have hsa : ((W2.alloc (.cells ([.int .i64 f, .int .i64 o.o.np, .int .i64 o.o.nd, .bool o.o.weak, .bool o.o.fin, o.P, o.N, .bool o.o.freed]).toArray 41)).drew).heap.size ≥ W2.heap.size := hFa.size
        have hat5 : (Value.slice A3 (x.m.ros.length + 1) c3).ownBlock = (Value.slice x.m.A x.m.ros.length x.m.c).ownBlock ∨ ∃ k, w.heap.size ≤ k ∧ (Value.slice A3 (x.m.ros.length + 1) c3).ownBlock = some k := hat3.imp id fun h => ⟨_, Nat.le_trans hsz hsa, h⟩
        have hne3 : ∀ k, (Value.slice A3 (x.m.ros.length + 1) c3).ownBlock = some k → ¬ Only g k := by
          intro k hk hkg
          have hkg' : k = g := hkg
          subst hkg'
          rcases hat5 with h | ⟨j, hj, h⟩
          · exact hng (h ▸ hk)
          · rw [hk] at h; injection h with h; omega
        clear hsz hsa
        have hXX : rowOf (x.m.ros ++ [⟨{ o.o with serial := f }, o.P, o.N⟩]) = rowOf x.m.ros ++ [.int .i64 f, .int .i64 o.o.np, .int .i64 o.o.nd, .bool o.o.weak, .bool o.o.fin, o.P, o.N, .bool o.o.freed] := by simp [rowOf, RO.cells]
        have HXX := Lib.hid hXX
        clear hXX hw4 hF3 hown3 hat3 hG3
        go_wp2_with fail
        have hown4 : (w3.setCell ⟨g, 5, none⟩ (.slice A3 (x.m.ros.length + 1) c3)).ownsRow B 41 8 (.slice A3 (x.m.ros.length + 1) c3) (x.m.ros.length + 1) (rowOf (x.m.ros ++ [⟨{ o.o with serial := f }, o.P, o.N⟩])) := by
          rw [HXX.out]
          exact own_fr Hown3.out ((Fr.refl (Only g) w3).set _ _ (Or.inl (only_self _)) _) (fun k hk => hne3 k hk)
        have Hown4 := Lib.hid hown4
        clear hown4
        refine (Ht.out { x with m := { x.m with A := A3, c := c3, ros := x.m.ros ++ [⟨{ o.o with serial := f }, o.P, o.N⟩] } } _ hl rfl Hw4.out).mono ?_
        rintro e w5 ⟨rfl, hw5, hf5⟩
        have hown5 := own_fr Hown4.out hf5 hne3
        have hfr5 : Fr (fun k => k = g ∨ (Value.slice x.m.A x.m.ros.length x.m.c).ownBlock = some k) w w5 := (HF3.out.set _ _ (Or.inl (Or.inl rfl)) _).trans (hf5.mono (fun k _ hk => Or.inl hk))
        dsimp only at hw5
        rw [hxf] at hw5
        have HQ := HP.out A3 c3 w5 hw5 hown5 hat5 hfr5
        clear hown5 hfr5 hw5 hf5 hat5 hne3
        go_wp2
        exact HQ
    · have HP := Lib.hid (hP1 (.inr ⟨_, List.mem_map_of_mem (f := RO.o) (List.getElem_mem (show i < x.m.ros.length by simpa using hi)), by
        rw [List.getElem?_map, List.getElem?_eq_getElem (show i < x.m.ros.length by simpa using hi)] at hat
        simpa using hat⟩))
      generalize hA : x.m.A = A at *
      obtain ⟨b, oo, rfl, hbl, -⟩ := hrow.2.2 (by simp at hi; omega)
      have hat' : ∀ W, Fr No w W → Calls Try.prog 26 #[.agg #[.slice (some ⟨b, oo, none⟩) x.m.ros.length x.m.c, .slice x.m.Q x.m.qs.length x.m.qc], .int .i64 x.f] W fun e w' => e = .returned (.pointer (some ⟨b, oo + i * 8, none⟩)) ∧ Fr No W w' := fun W hW => at_ptr x.m.ros b oo x.m.c x.m.Q x.m.qs.length x.m.qc x.f i W (by omega) (hrow.no hW) hz
      have Hat := Lib.hid hat'
      clear hP1 hPost h hown hng hrow hat' hat hz hi hf hA
      generalize x.f = f at *
      have hF0 : Fr No w (w.alloc (.cells ([.int .i64 o.o.serial, .int .i64 o.o.np, .int .i64 o.o.nd, .bool o.o.weak, .bool o.o.fin, o.P, o.N, .bool o.o.freed]).toArray 41)) := (Fr.refl _ _).alloc _
      have k5 := (hF0.cell (p := ⟨g, 5, none⟩) hgl (fun x => x)).trans c5
      have k6 := (hF0.cell (p := ⟨g, 6, none⟩) hgl (fun x => x)).trans c6
      have k13 := (hF0.cell (p := ⟨g, 13, none⟩) hgl (fun x => x)).trans c13
      go_enter Try.func36, Try.ntmps36
      go_wp2_with fail
      refine gen_world _ (fun W => Fr No w W ∧ W.cell? ⟨g, 5, none⟩ = some (.slice (some ⟨b, oo, none⟩) x.m.ros.length x.m.c) ∧ W.cell? ⟨g, 6, none⟩ = some (.slice x.m.Q x.m.qs.length x.m.qc) ∧ W.cell? ⟨g, 13, none⟩ = some (.int .i64 f)) ⟨hF0, k5, k6, k13⟩ ?_
      clear hF0 k5 k6 k13 c5 c6 c13
      rintro W ⟨hF0, c5, c6, c13⟩
      have hgW : g < W.heap.size := by have := hF0.size; omega
      go_region_held3 (fun w' => w'.cell? ⟨g, 5, none⟩ = some (.slice (some ⟨b, oo, none⟩) x.m.ros.length x.m.c) ∧ w'.cell? ⟨g, 6, none⟩ = some (.slice x.m.Q x.m.qs.length x.m.qc) ∧ w'.cell? ⟨g, 13, none⟩ = some (.int .i64 f)) (first | go_keep | exact ⟨k1, k2, k3⟩) ((go_at_call 26; refine (Hat.out _ hF0.drew).mono ?_; rintro e w1 ⟨rfl, hf1⟩; have k1 := (hf1.cell (p := ⟨g, 5, none⟩) hgW (fun x => x)).trans c5; have k2 := (hf1.cell (p := ⟨g, 6, none⟩) hgW (fun x => x)).trans c6; have k3 := (hf1.cell (p := ⟨g, 13, none⟩) hgW (fun x => x)).trans c13))
      go_wp2
      exact HP.out _ (hF0.drew.trans hf1)
end Go.Proofs.Ytbjknkgefpeohaa
