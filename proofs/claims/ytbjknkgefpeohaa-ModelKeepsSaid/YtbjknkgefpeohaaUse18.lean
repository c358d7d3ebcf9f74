/- The contracts of chapter 18's functions, with what they hand back written out. Conditions: as in each contract. -/
import Derived.Test.YtbjknkgefpeohaaFit18
import Derived.Test.YtbjknkgefpeohaaRegs
import Derived.Test.YtbjknkgefpeohaaAwake
import Derived.Test.YtbjknkgefpeohaaSixEq
namespace Go.Proofs.Ytbjknkgefpeohaa
open Go.RowKit

/-- A model in memory, letter by letter. -/
def Lk (m : RM) (A : Option Addr) (n c : Nat) (Q : Option Addr) (k qc : Nat) : Prop := m.A = A ∧ m.ros.length = n ∧ m.c = c ∧ m.Q = Q ∧ m.qs.length = k ∧ m.qc = qc
theorem Lk.self (m : RM) : Lk m m.A m.ros.length m.c m.Q m.qs.length m.qc := ⟨rfl, rfl, rfl, rfl, rfl, rfl⟩
theorem Lk.val {m : RM} {A : Option Addr} {n c : Nat} {Q : Option Addr} {k qc : Nat} (h : Lk m A n c Q k qc) : m.val = .agg #[.slice A n c, .slice Q k qc] := by
  obtain ⟨rfl, rfl, rfl, rfl, rfl, rfl⟩ := h
  rfl

theorem six_list {l : List Int} (h : l.length = 6) : ∃ s0 s1 s2 s3 s4 s5, l = [s0, s1, s2, s3, s4, s5] := by
  match l, h with
  | [s0, s1, s2, s3, s4, s5], _ => exact ⟨s0, s1, s2, s3, s4, s5, rfl⟩

/-- What Do leaves, letter by letter. -/
def DoOut (d : PDeed) (p : PModel) (r : List Int) (f s : Int) (w : World) (e : Ending) (w' : World) : Prop :=
  ∃ A n c Q k qc s0 s1 s2 s3 s4 s5 v x, ∃ m : RM, e = .returned (.tuple #[.agg #[.slice A n c, .slice Q k qc], .agg #[.int .i64 s0, .int .i64 s1, .int .i64 s2, .int .i64 s3, .int .i64 s4, .int .i64 s5], .int .i64 v, .int .i64 x]) ∧ Lk m A n c Q k qc ∧ m.ok w' ∧ doF d p r f s = (m.pure, [s0, s1, s2, s3, s4, s5], v, x) ∧ Fr No w w'
theorem do_out {m : RM} {A : Option Addr} {n c : Nat} {Q : Option Addr} {k qc : Nat} (hl : Lk m A n c Q k qc) (d : PDeed) (r0 r1 r2 r3 r4 r5 f s : Int) (w : World) (h : m.ok w) (hn : n + 1 ≤ Cap) :
    Calls Try.prog 12 #[.agg #[.slice A n c, .slice Q k qc], .agg #[.int .i64 r0, .int .i64 r1, .int .i64 r2, .int .i64 r3, .int .i64 r4, .int .i64 r5], .agg #[.int .i64 d.kind, .int .i64 d.a, .int .i64 d.b, .int .i64 d.i, .int .i64 d.n], .int .i64 f, .int .i64 s] w
      (DoOut d m.pure [r0, r1, r2, r3, r4, r5] f s w) := by
  rw [← hl.val]
  obtain ⟨rfl, rfl, rfl, rfl, rfl, rfl⟩ := hl
  refine (Do_calls m d r0 r1 r2 r3 r4 r5 f s w h hn).mono ?_
  rintro e w' ⟨m', r', v, x, rfl, hf, hok, h6, hd⟩
  obtain ⟨s0, s1, s2, s3, s4, s5, rfl⟩ := six_list h6
  exact ⟨_, _, _, _, _, _, s0, s1, s2, s3, s4, s5, v, x, m', rfl, .self _, hok, hd, hf⟩

theorem fit_out (ros : List RO) (A : Option Addr) (c : Nat) (qs : List (Int × Int)) (B : Option Addr) (qc : Nat) (w : World) (hl : ros.length ≤ 9223372036854775807) (hql : qs.length ≤ 9223372036854775807)
    (h : Row w 8 A ros.length c (rowOf ros)) (hraw : ∀ r ∈ ros, r.raw w) (hq : Row w 2 B qs.length qc (itemVals qs)) (hqi : ∀ q ∈ qs, I64 q.1) :
    Calls Try.prog 9 #[.slice A ros.length c, .slice B qs.length qc] w
      fun e w' => ∃ A n c Q k qc, ∃ m : RM, e = .returned (.agg #[.slice A n c, .slice Q k qc]) ∧ Lk m A n c Q k qc ∧ m.ok w' ∧ m.pure = fitM (ros.map RO.o) qs ∧ n ≤ 8 ∧ Fr No w w' := by
  refine (fit_18 ros A c qs B qc w hl hql h hraw hq hqi).mono ?_
  rintro e w' ⟨m, rfl, hok, hp, hf⟩
  refine ⟨_, _, _, _, _, _, m, rfl, .self _, hok, hp, ?_, hf⟩
  have h1 := congrArg (fun p => p.objs.length) hp
  have h2 := fit_len (ros.map RO.o) qs
  simp only [RM.pure, List.length_map] at h1
  rw [h1, h2]
  unfold fitN8
  omega

theorem regs_out {A : Option Addr} {n c : Nat} {Q : Option Addr} {k qc : Nat} (r0 r1 r2 r3 r4 r5 : Int) (hr : ∀ x ∈ [r0, r1, r2, r3, r4, r5], I64 x) (hn : n ≤ 8) (w : World) :
    Calls Try.prog 10 #[.agg #[.slice A n c, .slice Q k qc], .agg #[.int .i64 r0, .int .i64 r1, .int .i64 r2, .int .i64 r3, .int .i64 r4, .int .i64 r5]] w
      fun e w' => ∃ s0 s1 s2 s3 s4 s5, e = .returned (.agg #[.int .i64 s0, .int .i64 s1, .int .i64 s2, .int .i64 s3, .int .i64 s4, .int .i64 s5]) ∧ (∀ x ∈ [s0, s1, s2, s3, s4, s5], 0 ≤ x ∧ x ≤ n) ∧ Fr No w w' := by
  refine (regs_18 A Q n c k qc [r0, r1, r2, r3, r4, r5] r0 r1 r2 r3 r4 r5 rfl hr (Nat.le_trans (by omega : n ≤ 9) (by decide)) w).mono ?_
  rintro e w' ⟨rfl, hf⟩
  refine ⟨_, _, _, _, _, _, rfl, ?_, hf⟩
  have hb : ∀ x, 0 ≤ pickZ x ((n : Int) + 1) ∧ pickZ x ((n : Int) + 1) ≤ n := fun x => by have := pickZ_bd x ((n : Int) + 1) (by omega); omega
  intro x hx
  simp only [List.mem_cons, List.not_mem_nil, or_false] at hx
  rcases hx with rfl | rfl | rfl | rfl | rfl | rfl <;> exact hb _

theorem find_out {m : RM} {A : Option Addr} {n c : Nat} {Q : Option Addr} {k qc : Nat} (hl : Lk m A n c Q k qc) (hg : Good m.pure) (s : Int) (w : World) (h : m.ok w) :
    Calls Try.prog 15 #[.agg #[.slice A n c, .slice Q k qc], .int .i64 s] w
      fun e w' => Fr No w w' ∧ ((lookP m.pure s = none ∧ e = .returned (.tuple #[.agg #[.int .i64 0, .int .i64 0, .int .i64 0, .bool false, .bool false, .slice none 0 0, .slice none 0 0, .bool false], .bool false])) ∨
        ∃ (o : PObj) (pA : Option Addr) (pc : Nat) (nA : Option Addr) (nc : Nat), lookP m.pure s = some o ∧ e = .returned (.tuple #[.agg #[.int .i64 o.serial, .int .i64 o.np, .int .i64 o.nd, .bool o.weak, .bool o.fin, .slice pA o.ptrs.length pc, .slice nA o.nums.length nc, .bool o.freed], .bool true]) ∧ Row w' 1 nA o.nums.length nc (intVals o.nums)) := by
  rw [← hl.val]
  refine (find_calls m s w h).mono ?_
  intro e w' he
  obtain ⟨hf, h1 | ⟨⟨o, P, N⟩, h2, h3, h4⟩⟩ := found_look hg he
  · exact ⟨hf, .inl h1⟩
  · obtain ⟨pA, pc, nA, nc, e1, e2, r1, r2, c1, c2⟩ := h3
    dsimp only at e1 e2 r1 r2 h2
    subst e1 e2
    exact ⟨hf, .inr ⟨o, pA, pc, nA, nc, h2, h4, r2⟩⟩

theorem same_out {m m' : RM} {A : Option Addr} {n c : Nat} {Q : Option Addr} {k qc : Nat} {A' : Option Addr} {n' c' : Nat} {Q' : Option Addr} {k' qc' : Nat} (hl : Lk m A n c Q k qc) (hl' : Lk m' A' n' c' Q' k' qc') (w : World) (h : m.ok w) (h' : m'.ok w) :
    Calls Try.prog 13 #[.agg #[.slice A n c, .slice Q k qc], .agg #[.slice A' n' c', .slice Q' k' qc']] w fun e w' => e = .returned (.bool (decide (m.pure = m'.pure))) ∧ Fr No w w' := by
  rw [← hl.val, ← hl'.val]
  exact same_calls m m' w h h'
end Go.Proofs.Ytbjknkgefpeohaa
