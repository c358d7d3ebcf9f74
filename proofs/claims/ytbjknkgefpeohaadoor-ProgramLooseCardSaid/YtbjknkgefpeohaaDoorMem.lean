/- Words for memory that the walks of this seat share: rows of cells that a slice value reads as, whole blocks, and what a call leaves alone. Conditions: none; these are plain lemmas. -/
import Derived.WalkKit
import Derived.WalkSpells
import Derived.WalkLawsBesides
import Derived.Deep.Draws
import Derived.Laws.OwnMore
import Derived.Maps.AppendAt
import Derived.Deep.AppendLies
import Derived.Lib.SliceRun
import Derived.Lib.Hide
import Derived.Deep.RegionWith
import Derived.Deep.RegionHeld3
import Derived.Deep.RegionLaw
import Derived.Deep.DrawnRows
import Derived.Deep.QuietTactic
import Derived.BigQuiet
namespace Go.Proofs.YtbjknkgefpeohaaDoor
open Go.RowKit

/-- Block g of w is just these cells, of element type T, none of them frozen. -/
def Whole (w : World) (g : Nat) (T : TypeId) (cs : List Value) : Prop := w.heap[g]? = some (.cells cs.toArray T (0, 0))

section
variable {w w' : World} {g : Nat} {T : TypeId} {cs : List Value}
theorem Whole.lt (h : Whole w g T cs) : g < w.heap.size := by
  rcases Nat.lt_or_ge g w.heap.size with hl | hl
  · exact hl
  · unfold Whole at h; rw [Array.getElem?_eq_none hl] at h; cases h
theorem Whole.cell (h : Whole w g T cs) (i : Nat) : w.cell? ⟨g, i, none⟩ = cs[i]? := by
  unfold Whole at h
  simp [World.cell?, h]
theorem Whole.frozen (h : Whole w g T cs) (i : Nat) : w.frozen? ⟨g, i, none⟩ = false := by
  unfold Whole at h
  simp [World.frozen?, h]
theorem Whole.congr (h : Whole w g T cs) (hb : w'.heap[g]? = w.heap[g]?) : Whole w' g T cs := hb.trans h
theorem Whole.new (w : World) (T : TypeId) (cs : List Value) : Whole (w.alloc (.cells cs.toArray T)) w.heap.size T cs := heap_alloc_new w _
theorem Whole.drew (h : Whole w g T cs) : Whole w.drew g T cs := h
theorem Whole.alloc (h : Whole w g T cs) (o : Obj) : Whole (w.alloc o) g T cs := (Below.heap_alloc w o g h.lt).trans h
theorem Whole.below {B : Nat} (h : Whole w g T cs) (hb : Below B w w') (hg : g < B) : Whole w' g T cs := (hb.block g hg).trans h
theorem Whole.grown {row : Option Nat} (h : Whole w g T cs) (hb : w.grownBy w' row) (hg : some g ≠ row) : Whole w' g T cs := (hb.block g h.lt hg).trans h
theorem Whole.set (h : Whole w g T cs) (i : Nat) (u : Value) : Whole (w.setCell ⟨g, i, none⟩ u) g T (cs.set i u) := by
  unfold Whole at h ⊢
  simp [World.setCell, Array.getElem?_modify, h]
theorem Whole.far (h : Whole w g T cs) {p : Addr} (hp : g ≠ p.block) (u : Value) : Whole (w.setCell p u) g T cs := (Below.heap_setCell w p u g hp).trans h
end

/-- One block alone; either of two sets. -/
def Only (g : Nat) : Nat → Prop := fun k => k = g
theorem only_self (g : Nat) : Only g g := rfl

/-- What a call may turn: of the blocks that were there, those in F alone; the streams are as they were. -/
structure Fr (F : Nat → Prop) (w w' : World) : Prop where
  os : w'.os = w.os
  tape : w'.tape = w.tape
  output : w'.output = w.output
  size : w.heap.size ≤ w'.heap.size
  block : ∀ k, k < w.heap.size → ¬ F k → w'.heap[k]? = w.heap[k]?

section
variable {F G : Nat → Prop} {w w' w'' : World}
theorem Fr.refl (F : Nat → Prop) (w : World) : Fr F w w := ⟨rfl, rfl, rfl, Nat.le_refl _, fun _ _ _ => rfl⟩
theorem Fr.trans (h : Fr F w w') (k : Fr F w' w'') : Fr F w w'' :=
  ⟨k.os.trans h.os, k.tape.trans h.tape, k.output.trans h.output, Nat.le_trans h.size k.size,
    fun i hi hn => (k.block i (Nat.lt_of_lt_of_le hi h.size) hn).trans (h.block i hi hn)⟩
theorem Fr.mono (h : Fr F w w') (hFG : ∀ k, k < w.heap.size → F k → G k) : Fr G w w' :=
  ⟨h.os, h.tape, h.output, h.size, fun k hk hn => h.block k hk (fun hf => hn (hFG k hk hf))⟩
theorem Fr.drew (h : Fr F w w') : Fr F w w'.drew := ⟨h.os, h.tape, h.output, h.size, h.block⟩
theorem Fr.drewN (h : Fr F w w') (n : Nat) : Fr F w (w'.drewN n) := ⟨h.os, h.tape, h.output, h.size, h.block⟩
theorem Fr.alloc (h : Fr F w w') (o : Obj) : Fr F w (w'.alloc o) :=
  ⟨h.os, h.tape, h.output, by simpa using Nat.le_succ_of_le h.size, fun k hk hn => (Below.heap_alloc w' o k (Nat.lt_of_lt_of_le hk h.size)).trans (h.block k hk hn)⟩
theorem Fr.setCell (h : Fr F w w') {p : Addr} (hp : F p.block ∨ w.heap.size ≤ p.block) (u : Value) : Fr F w (w'.setCell p u) :=
  ⟨h.os, h.tape, h.output, by simpa using h.size, fun k hk hn => (Below.heap_setCell w' p u k (by
    rintro rfl
    rcases hp with hp | hp
    · exact hn hp
    · omega)).trans (h.block k hk hn)⟩
theorem Fr.set (h : Fr F w w') (g i : Nat) (hp : F g ∨ w.heap.size ≤ g) (u : Value) : Fr F w (w'.setCell ⟨g, i, none⟩ u) := h.setCell (p := ⟨g, i, none⟩) hp u
theorem Fr.next (h : Fr F w w') (k : Fr G w' w'') (hg : ∀ i, i < w.heap.size → G i → F i) : Fr F w w'' :=
  ⟨k.os.trans h.os, k.tape.trans h.tape, k.output.trans h.output, Nat.le_trans h.size k.size,
    fun i hi hn => (k.block i (Nat.lt_of_lt_of_le hi h.size) (fun hgi => hn (hg i hi hgi))).trans (h.block i hi hn)⟩
theorem Fr.grown (h : Fr F w w') {row : Option Nat} (hg : w'.grownBy w'' row) (hr : ∀ k, row = some k → F k ∨ w.heap.size ≤ k) : Fr F w w'' :=
  ⟨hg.os.trans h.os, hg.tape.trans h.tape, hg.output.trans h.output, Nat.le_trans h.size hg.size, fun k hk hn => (hg.block k (Nat.lt_of_lt_of_le hk h.size) (fun e => by
    rcases hr k e.symm with h1 | h1
    · exact hn h1
    · omega)).trans (h.block k hk hn)⟩
theorem Fr.whole {g : Nat} {T : TypeId} {cs : List Value} (h : Fr F w w') (hb : Whole w g T cs) (hg : ¬ F g) : Whole w' g T cs := hb.congr (h.block g hb.lt hg)
theorem Fr.cell (h : Fr F w w') {p : Addr} (hl : p.block < w.heap.size) (hg : ¬ F p.block) : w'.cell? p = w.cell? p := World.cell?_of_block (w := w) (h.block _ hl hg)
theorem Fr.frozen (h : Fr F w w') {p : Addr} (hl : p.block < w.heap.size) (hg : ¬ F p.block) : w'.frozen? p = w.frozen? p := World.frozen?_of_block (w := w) (h.block _ hl hg)
end
/-- Nothing that was there has turned. -/
def No : Nat → Prop := fun _ => False
theorem Fr.below {w w' : World} (h : Fr No w w') : Below w.heap.size w w' := ⟨h.os, h.tape, h.output, h.size, fun k hk => h.block k hk (fun x => x)⟩
/-- The walk's own two rules behind a call that turned nothing. -/
theorem Fr.cells {w w' : World} (h : Fr No w w') : (∀ b o, b < w.heap.size → w'.cell? ⟨b, o, none⟩ = w.cell? ⟨b, o, none⟩) ∧ (∀ b o, b < w.heap.size → w'.frozen? ⟨b, o, none⟩ = w.frozen? ⟨b, o, none⟩) ∧ w.heap.size ≤ w'.heap.size :=
  ⟨fun b o hb => h.cell (p := ⟨b, o, none⟩) hb (fun x => x), fun b o hb => h.frozen (p := ⟨b, o, none⟩) hb (fun x => x), h.size⟩
theorem fr_of_below {w w' : World} (h : Below w.heap.size w w') : Fr No w w' := ⟨h.os, h.tape, h.output, h.size, fun k hk _ => h.block k hk⟩

/-- The slice value '.slice A n c' reads as the cells xs, 'size' of them an element. -/
def Row (w : World) (size : Nat) (A : Option Addr) (n c : Nat) (xs : List Value) : Prop :=
  xs.length = n * size ∧ n ≤ c ∧ (0 < n → ∃ b o, A = some ⟨b, o, none⟩ ∧ b < w.heap.size ∧ ∀ j u, xs[j]? = some u → w.cell? ⟨b, o + j, none⟩ = some u)

section
variable {w w' : World} {size n c : Nat} {A : Option Addr} {xs : List Value}
theorem Row.nil (w : World) (size : Nat) (A : Option Addr) (c : Nat) : Row w size A 0 c [] := ⟨by simp, Nat.zero_le _, fun h => absurd h (by omega)⟩
theorem Row.keep (h : Row w size A n c xs) (hs : w.heap.size ≤ w'.heap.size) (hk : ∀ b o, A = some ⟨b, o, none⟩ → w'.heap[b]? = w.heap[b]?) : Row w' size A n c xs :=
  ⟨h.1, h.2.1, fun hn => by
    obtain ⟨b, o, hA, hb, hc⟩ := h.2.2 hn
    exact ⟨b, o, hA, by omega, fun j u hu => (World.cell?_of_block (w := w) (a := ⟨b, o + j, none⟩) (hk b o hA)).trans (hc j u hu)⟩⟩
theorem Row.fr {F : Nat → Prop} (h : Row w size A n c xs) (hf : Fr F w w') (hk : ∀ b o, A = some ⟨b, o, none⟩ → ¬ F b) : Row w' size A n c xs :=
  ⟨h.1, h.2.1, fun hn => by
    obtain ⟨b, o, hA, hb, hc⟩ := h.2.2 hn
    exact ⟨b, o, hA, by have := hf.size; omega, fun j u hu => (hf.cell (p := ⟨b, o + j, none⟩) hb (hk b o hA)).trans (hc j u hu)⟩⟩
theorem Row.no (h : Row w size A n c xs) (hf : Fr No w w') : Row w' size A n c xs := h.fr hf (fun _ _ _ x => x)
theorem Row.of_own {base : Nat} {e : TypeId} (h : w.ownsRow base e size (.slice A n c) n xs) : Row w size A n c xs := by
  rcases h.2 with ⟨hv, hn⟩ | ⟨g, cap, cur, hv, hb, hg, hnc, hcm, hcs, ht⟩
  · injection hv with h1 h2 h3
    subst hn
    exact ⟨h.1, by omega, fun h => absurd h (by omega)⟩
  · injection hv with h1 h2 h3
    subst h1 h3
    refine ⟨h.1, hnc, fun hn => ⟨g, 0, rfl, (Array.getElem?_eq_some_iff.1 hg).1, fun j u hu => ?_⟩⟩
    have hc := h.cells (g := g) rfl j u hu
    have hadd : (⟨g, 0, none⟩ : Addr).add j = ⟨g, 0 + j, none⟩ := by unfold Addr.add; split <;> simp_all
    rwa [hadd] at hc
end

theorem Row.of_whole {w : World} {g : Nat} {T : TypeId} {cs : List Value} (h : Whole w g T cs) (size n : Nat) (hl : cs.length = n * size) : Row w size (some ⟨g, 0, none⟩) n n cs :=
  ⟨hl, Nat.le_refl _, fun _ => ⟨g, 0, rfl, h.lt, fun j u hu => by rw [Nat.zero_add, h.cell]; exact hu⟩⟩

theorem addr_add (b o j : Nat) : (⟨b, o, none⟩ : Addr).add j = ⟨b, o + j, none⟩ := by unfold Addr.add; split <;> simp_all

/-- What of an owned row a frame keeps. -/
theorem own_fr {F : Nat → Prop} {w w' : World} {base : Nat} {e : TypeId} {size : Nat} {v : Value} {n : Nat} {xs : List Value}
    (h : w.ownsRow base e size v n xs) (hf : Fr F w w') (hk : ∀ g, v.ownBlock = some g → ¬ F g) : w'.ownsRow base e size v n xs := by
  refine ⟨h.1, ?_⟩
  rcases h.2 with h0 | ⟨g, cap, cur, hv, hb, hg, rest⟩
  · exact .inl h0
  · refine .inr ⟨g, cap, cur, hv, hb, ?_, rest⟩
    rw [hf.block g (Array.getElem?_eq_some_iff.1 hg).1 (hk g (by subst hv; rfl))]
    exact hg
theorem own_base {w : World} {base base' : Nat} {e : TypeId} {size : Nat} {v : Value} {n : Nat} {xs : List Value}
    (h : w.ownsRow base e size v n xs) (hk : ∀ g, v.ownBlock = some g → base' ≤ g) : w.ownsRow base' e size v n xs := by
  refine ⟨h.1, ?_⟩
  rcases h.2 with h0 | ⟨g, cap, cur, hv, hb, rest⟩
  · exact .inl h0
  · exact .inr ⟨g, cap, cur, hv, hk g (by subst hv; rfl), rest⟩
/-- An owned row's value, written out. -/
theorem own_form {w : World} {base : Nat} {e : TypeId} {size : Nat} {v : Value} {n : Nat} {xs : List Value} (h : w.ownsRow base e size v n xs) :
    ∃ A c, v = .slice A n c ∧ n ≤ c ∧ (∀ a, A = some a → ∃ g, a = ⟨g, 0, none⟩ ∧ base ≤ g ∧ g < w.heap.size) := by
  rcases h.2 with ⟨hv, hn⟩ | ⟨g, cap, cur, hv, hb, hg, hnc, _⟩
  · subst hn; exact ⟨none, 0, hv, Nat.le_refl _, fun a ha => by cases ha⟩
  · exact ⟨some ⟨g, 0, none⟩, cap, hv, hnc, fun a ha => ⟨g, by injection ha with ha; exact ha.symm, hb, (Array.getElem?_eq_some_iff.1 hg).1⟩⟩

/-- A bound on lengths that no walk of these seats comes near. -/
def Cap : Nat := 1099511627776
theorem cap_lt {n : Nat} (h : n ≤ Cap) : n ≤ 1099511627776 := h

/-- The world may be forgotten but for what is said of it. -/
theorem gen_world {P : Program} {c : Code} {Q : Exit → Act → World → Prop} {a : Act} (W : World) (S : World → Prop) (hS : S W) (h : ∀ W', S W' → c.wp P Q a W') : c.wp P Q a W := h W hS
theorem gen_exit {Q : Exit → Act → World → Prop} {e : Exit} {a : Act} (W : World) (S : World → Prop) (hS : S W) (h : ∀ W', S W' → Q e a W') : Q e a W := h W hS
theorem gen_list {P : Program} {ops : Array Oper} {l : List Oper} {Q : Exit → Act → World → Prop} {a : Act} (W : World) (S : World → Prop) (hS : S W) (h : ∀ W', S W' → wpList P ops Q l a W') : wpList P ops Q l a W := h W hS
/-- A new block, told by what is known of it. -/
theorem Whole.new1 (w : World) (T : TypeId) (cs : List Value) (o : Obj) : Whole ((w.alloc o).alloc (.cells cs.toArray T)) (w.heap.size + 1) T cs := by simpa using Whole.new (w.alloc o) T cs
theorem Whole.new2 (w : World) (T : TypeId) (cs : List Value) (o o' : Obj) : Whole (((w.alloc o).alloc o').alloc (.cells cs.toArray T)) (w.heap.size + 1 + 1) T cs := by simpa using Whole.new ((w.alloc o).alloc o') T cs
theorem Whole.new3 (w : World) (T : TypeId) (cs : List Value) (o o' o'' : Obj) : Whole ((((w.alloc o).alloc o').alloc o'').alloc (.cells cs.toArray T)) (w.heap.size + 1 + 1 + 1) T cs := by simpa using Whole.new (((w.alloc o).alloc o').alloc o'') T cs

/-- A struct, or an array, as a whole: loaded, handed back, stored. -/
theorem results_whole {P : Program} {fn : Func} {p : Tmp} {ty : TypeId} (h : fn.results = #[.cell p ty]) {tmps : Array Value} {w : World} {g : Nat} {t : TypeId} {cs : List Value} {d : TypeDesc}
    (hp : tmps.getD p undef = .pointer (some ⟨g, 0, none⟩)) (hg : Whole w g t cs) (hu : P.underlying ty = some d) (hd : (match d with | .struct _ | .array _ _ => true | _ => false) = true)
    (hi : (P.info? ty).map (·.size) = some cs.length) : (results fn tmps).run P w = .ok (.agg cs.toArray) w :=
  results_cell_row h tmps w g t cs.toArray (0, 0) d hp hg hu hd (by simpa using hi)

theorem set_run {w : World} {g : Nat} {t : TypeId} {cs : List Value} (hg : Whole w g t cs) (P : Program) : ∀ (vs : List Value) (i : Nat), i + vs.length ≤ cs.length → (∀ v ∈ vs, v.oneCell' = true) →
    ∃ w', (storeCells ⟨g, 0, none⟩ vs i).run P w = .ok () w' ∧ Whole w' g t (cs.take i ++ vs ++ cs.drop (i + vs.length)) ∧ Fr (Only g) w w' := by
  intro vs
  induction vs generalizing w cs with
  | nil => intro i hi _; exact ⟨w, rfl, by simpa using hg, Fr.refl _ _⟩
  | cons v vs ih =>
    intro i hi h1
    have hil : i < cs.length := by simp at hi; omega
    have hc : w.cell? ((⟨g, 0, none⟩ : Addr).add i) = some cs[i] := by rw [addr_add, hg.cell]; simp [hil]
    have hf : w.frozen? ((⟨g, 0, none⟩ : Addr).add i) = false := by rw [addr_add, hg.frozen]
    have hv : v.oneCell' = true := h1 v (List.mem_cons_self ..)
    have hset := hg.set i v
    obtain ⟨w', hr, hw, hfr⟩ := ih hset (i + 1) (by simp at hi ⊢; omega) (fun u hu => h1 u (List.mem_cons_of_mem _ hu))
    refine ⟨w', ?_, ?_, ((Fr.refl (Only g) w).setCell (p := ⟨g, i, none⟩) (Or.inl (only_self g)) v).trans hfr⟩
    · have hst : (store (⟨g, 0 + i, none⟩ : Addr) v).run P w = .ok () (w.setCell ⟨g, 0 + i, none⟩ v) := by
        rw [addr_add] at hc hf
        cases v <;> simp_all [store, Sem.run, Value.oneCell']
      rw [storeCells, Sem.run_bind, addr_add, hst]
      simpa using hr
    · have e : (cs.set i v).take (i + 1) ++ vs ++ (cs.set i v).drop (i + 1 + vs.length) = cs.take i ++ (v :: vs) ++ cs.drop (i + (v :: vs).length) := by
        rw [List.take_add_one, List.take_set_of_le (Nat.le_refl _), List.drop_set_of_lt (by omega)]
        simp [hil, Nat.add_assoc, Nat.add_comm 1]
      rw [e] at hw
      exact hw

theorem wp_store_whole {P : Program} {o : Oper} {a : Act} {w : World} {K : Act → World → Prop} {Q : Exit → Act → World → Prop} (T : TypeId) (x y : Operand) (ho : o.op = .store T x y)
    (g : Nat) (hx : a.eval x = .pointer (some ⟨g, 0, none⟩)) (vs : List Value) (hy : a.eval y = .agg vs.toArray) (t : TypeId) (cs : List Value) (hg : Whole w g t cs)
    (hi : (P.info? T).map (·.size) = some vs.length) (hl : vs.length = cs.length) (h1 : vs.all Value.oneCell' = true)
    (h : ∀ w', Whole w' g t vs → Fr (Only g) w w' → K (a.put o.dst undef) w') : o.wp P a w K Q := by
  obtain ⟨w', hr, hw, hf⟩ := set_run hg P vs 0 (by omega) (fun v hv => List.all_eq_true.1 h1 v hv)
  have e : cs.take 0 ++ vs ++ cs.drop (0 + vs.length) = vs := by simp [hl]
  rw [e] at hw
  cases hq : P.info? T with
  | none => simp [hq] at hi
  | some i =>
    have hs : i.size = vs.length := by simpa [hq] using hi
    have hrun : (Instr.storeAt T (.pointer (some ⟨g, 0, none⟩)) (.agg vs.toArray)).run P w = .ok () w' := by
      simp [Instr.storeAt, Instr.sureAddr, storeVar, sizeOf, typeInfo, hq, hs, Value.cells, hr]
    unfold Oper.wp execOp
    simp only [ho, hx, hy, Sem.run_bind, Sem.run_pure, hrun, Result.andThen_ok]
    exact h w' hw hf
theorem wpList_store_whole {P : Program} {ops : Array Oper} {rest : List Oper} {o : Oper} {a : Act} {w : World} {Q : Exit → Act → World → Prop} (hgd : o.guard = none) (T : TypeId) (x y : Operand) (ho : o.op = .store T x y)
    (g : Nat) (hx : a.eval x = .pointer (some ⟨g, 0, none⟩)) (vs : List Value) (hy : a.eval y = .agg vs.toArray) (t : TypeId) (cs : List Value) (hg : Whole w g t cs)
    (hi : (P.info? T).map (·.size) = some vs.length) (hl : vs.length = cs.length) (h1 : vs.all Value.oneCell' = true)
    (h : ∀ w', Whole w' g t vs → Fr (Only g) w w' → wpList P ops Q rest (a.put o.dst undef) w') : wpList P ops Q (o :: rest) a w :=
  wpList_plain hgd fun _ hK => wp_store_whole T x y ho g hx vs hy t cs hg hi hl h1 fun w' h2 h3 => hK _ _ (h w' h2 h3)
theorem step_store_whole {P : Program} {ops : Array Oper} {o : Oper} {a : Act} {w : World} {K : Act → World → Prop} {Q : Exit → Act → World → Prop} {E : Prop} (hgd : o.guard = none) (T : TypeId) (x y : Operand) (ho : o.op = .store T x y)
    (g : Nat) (hx : a.eval x = .pointer (some ⟨g, 0, none⟩)) (vs : List Value) (hy : a.eval y = .agg vs.toArray) (t : TypeId) (cs : List Value) (hg : Whole w g t cs)
    (hi : (P.info? T).map (·.size) = some vs.length) (hl : vs.length = cs.length) (h1 : vs.all Value.oneCell' = true)
    (h : ∀ w', Whole w' g t vs → Fr (Only g) w w' → K (a.put o.dst undef) w') : if Region.wanted o (yielded ops a.tmps) = true then Oper.wp P o a w K Q else E := by
  rw [if_pos (by simp [Region.wanted, hgd])]
  exact wp_store_whole T x y ho g hx vs hy t cs hg hi hl h1 h

theorem ownBlock_slice (A : Option Addr) (n c : Nat) : (Value.slice A n c).ownBlock = A.map (·.block) := by cases A <;> rfl

theorem own_slice {w : World} {base : Nat} {e : TypeId} {size : Nat} {v : Value} {n : Nat} {xs : List Value} (h : w.ownsRow base e size v n xs) :
    ∃ A c, v = .slice A n c ∧ n ≤ c ∧ (∀ a, A = some a → ∃ g, a = ⟨g, 0, none⟩ ∧ base ≤ g ∧ g < w.heap.size) := own_form h
theorem ret_int {k : IntKind} {a b : Int} (h : a = b) : Ending.returned (.int k a) = .returned (.int k b) := by rw [h]
theorem ret_bool {a b : Bool} (h : a = b) : Ending.returned (.bool a) = .returned (.bool b) := by rw [h]

/-- Integers, as a row's cells. -/
def intVals (l : List Int) : List Value := l.map (Value.int .i64)
@[simp] theorem intVals_length (l : List Int) : (intVals l).length = l.length := by simp [intVals]
theorem intVals_get (l : List Int) (i : Nat) : (intVals l)[i]? = (l[i]?).map (Value.int .i64) := by simp [intVals]
theorem intVals_one (l : List Int) : ∀ u ∈ intVals l, u.oneCell' = true := by
  intro u hu
  obtain ⟨x, _, rfl⟩ := List.mem_map.1 hu
  rfl
/-- What the walks ask of a slice type t of elements e, of 'size' cells and 'bytes' bytes each. -/
structure SlTy (P : Program) (t e : TypeId) (size bytes : Nat) : Prop where
  ty : P.underlying t = some (.slice e)
  info : ∃ i z, P.info? e = some i ∧ i.zero = some z ∧ i.size = size ∧ i.bytes = bytes ∧ z.cells.size = size
  pos : 0 < size
  small : bytes ≤ 128
theorem slTy_mk {P : Program} {t e : TypeId} {size bytes : Nat} {z : Value} (ht : P.underlying t = some (.slice e))
    (h : (P.info? e).map (fun i => (i.zero, i.size, i.bytes)) = some (some z, size, bytes)) (hz : z.cells.size = size) (h0 : 0 < size) (hb : bytes ≤ 128) : SlTy P t e size bytes := by
  obtain ⟨i, h1, h2, h3, h4⟩ := info_parts h
  exact ⟨ht, ⟨i, z, h1, h2, h3, h4, hz⟩, h0, hb⟩

section
variable {P : Program} {t e : TypeId} {size bytes : Nat}
theorem run_app (T : SlTy P t e size bytes) (w : World) (base ty : Nat) (v : Value) (n : Nat) (xs : List Value) (hown : w.ownsRow base e size v n xs)
    (A : Option Addr) (m c : Nat) (news : List Value) (hr : Row w size A m c news) (h1 : ∀ u ∈ news, u.oneCell' = true) (hc : n + m ≤ Cap) (hbase : base ≤ w.heap.size) :
    ∃ v' w', (Builtin.append_ #[t, t] ty #[v, .slice A m c]).run P w = .ok v' w' ∧ w'.ownsRow base e size v' (n + m) (xs ++ news) ∧ w.grownBy w' v.ownBlock ∧
      (v'.ownBlock = v.ownBlock ∨ v'.ownBlock = some w.heap.size) := by
  obtain ⟨ht, ⟨i, z, hi, hz, hs, hb, hzs⟩, hp, hsm⟩ := T
  have hc' := cap_lt hc
  have h63 : n + m ≤ maxLen := by simp only [maxLen]; omega
  have hby : (n + m) * bytes ≤ 140737488355328 := Nat.le_trans (Nat.mul_le_mul hc' hsm) (by decide)
  by_cases hm : 0 < m
  · obtain ⟨b, o, rfl, hlt, hcell⟩ := hr.2.2 hm
    obtain ⟨v', w', hrun, g1, g2, _, g3⟩ := run_append_own_at (P := P) w base t ty e i z size bytes ht hi hz hs hb hzs hp v n xs hown ⟨b, o, none⟩ m c news hr.1
      (fun j u hu => by rw [addr_add]; exact hcell j u hu) h1 h63 hby hbase
    exact ⟨v', w', hrun, g1, g2, g3⟩
  · have hm0 : m = 0 := by omega
    subst hm0
    have hn : news = [] := List.eq_nil_of_length_eq_zero (by simpa using hr.1)
    subst hn
    have hrun : (Builtin.append_ #[t, t] ty #[v, .slice A 0 c]).run P w = .ok v w := by
      rcases hown.2 with ⟨rfl, rfl⟩ | ⟨g, cap, cur, rfl, _, _, hnc, _⟩
      · cases A <;> simp [Builtin.append_, run_underlying ht, sizeOf, typeInfo, hi, Builtin.lenOf, Builtin.firstCells, loadCells, loadCellsFrom]
      · cases A <;> simp [Builtin.append_, run_underlying ht, sizeOf, typeInfo, hi, Builtin.lenOf, Builtin.firstCells, hnc, storeCells, loadCells, loadCellsFrom]
    exact ⟨v, w, hrun, by simpa using hown, World.grownBy.refl w _, .inl rfl⟩

theorem wp_app {o : Oper} {a : Act} {K : Act → World → Prop} {Q : Exit → Act → World → Prop} (T : SlTy P t e size bytes) (w : World) (s x : Operand)
    (ho : o.op = .call { callee := .builtin .append, args := #[s, x], argTypes := #[t, t] })
    (base : Nat) (v : Value) (n : Nat) (xs : List Value) (hs : a.eval s = v) (hown : w.ownsRow base e size v n xs)
    (A : Option Addr) (m c : Nat) (news : List Value) (hx : a.eval x = .slice A m c) (hr : Row w size A m c news) (h1 : ∀ u ∈ news, u.oneCell' = true) (hc : n + m ≤ Cap) (hbase : base ≤ w.heap.size)
    (h : ∀ v' w', w'.ownsRow base e size v' (n + m) (xs ++ news) → w.grownBy w' v.ownBlock → (v'.ownBlock = v.ownBlock ∨ v'.ownBlock = some w.heap.size) → K (a.put o.dst v') w') : o.wp P a w K Q := by
  obtain ⟨v', w', hrun, g1, g2, g3⟩ := run_app T w base o.type v n xs hown A m c news hr h1 hc hbase
  unfold Oper.wp execOp
  simp only [ho, resolve, invoke, builtin, Sem.run_bind, Sem.run_pure, Result.andThen_ok, List.map_toArray, List.map_cons, List.map_nil, hs, hx, hrun]
  exact h v' w' g1 g2 g3

theorem wpList_app {ops : Array Oper} {rest : List Oper} {o : Oper} {a : Act} {Q : Exit → Act → World → Prop} (T : SlTy P t e size bytes) (w : World) (hgd : o.guard = none) (s x : Operand)
    (ho : o.op = .call { callee := .builtin .append, args := #[s, x], argTypes := #[t, t] })
    (base : Nat) (v : Value) (n : Nat) (xs : List Value) (hs : a.eval s = v) (hown : w.ownsRow base e size v n xs)
    (A : Option Addr) (m c : Nat) (news : List Value) (hx : a.eval x = .slice A m c) (hr : Row w size A m c news) (h1 : ∀ u ∈ news, u.oneCell' = true) (hc : n + m ≤ Cap) (hbase : base ≤ w.heap.size)
    (h : ∀ v' w', w'.ownsRow base e size v' (n + m) (xs ++ news) → w.grownBy w' v.ownBlock → (v'.ownBlock = v.ownBlock ∨ v'.ownBlock = some w.heap.size) → wpList P ops Q rest (a.put o.dst v') w') : wpList P ops Q (o :: rest) a w :=
  wpList_plain hgd fun _ hK => wp_app T w s x ho base v n xs hs hown A m c news hx hr h1 hc hbase fun v' w' h2 h3 h4 => hK _ _ (h v' w' h2 h3 h4)

/-- The same, the new slice written out. -/
theorem wpList_apps {ops : Array Oper} {rest : List Oper} {o : Oper} {a : Act} {Q : Exit → Act → World → Prop} (T : SlTy P t e size bytes) (w : World) (hgd : o.guard = none) (s x : Operand)
    (ho : o.op = .call { callee := .builtin .append, args := #[s, x], argTypes := #[t, t] })
    (base : Nat) (v : Value) (n : Nat) (xs : List Value) (hs : a.eval s = v) (hown : w.ownsRow base e size v n xs)
    (A : Option Addr) (m c : Nat) (news : List Value) (hx : a.eval x = .slice A m c) (hr : Row w size A m c news) (h1 : ∀ u ∈ news, u.oneCell' = true) (hc : n + m ≤ Cap) (hbase : base ≤ w.heap.size)
    (h : ∀ A' c' w', w'.ownsRow base e size (.slice A' (n + m) c') (n + m) (xs ++ news) → w.grownBy w' v.ownBlock → ((Value.slice A' (n + m) c').ownBlock = v.ownBlock ∨ (Value.slice A' (n + m) c').ownBlock = some w.heap.size) → wpList P ops Q rest (a.put o.dst (.slice A' (n + m) c')) w') : wpList P ops Q (o :: rest) a w :=
  wpList_app T w hgd s x ho base v n xs hs hown A m c news hx hr h1 hc hbase fun v' w' h2 h3 h4 => by
    obtain ⟨A', c', rfl, _⟩ := own_form h2
    exact h A' c' w' h2 h3 h4
theorem step_apps {ops : Array Oper} {o : Oper} {a : Act} {K : Act → World → Prop} {Q : Exit → Act → World → Prop} {E : Prop} (T : SlTy P t e size bytes) (w : World) (hgd : o.guard = none) (s x : Operand)
    (ho : o.op = .call { callee := .builtin .append, args := #[s, x], argTypes := #[t, t] })
    (base : Nat) (v : Value) (n : Nat) (xs : List Value) (hs : a.eval s = v) (hown : w.ownsRow base e size v n xs)
    (A : Option Addr) (m c : Nat) (news : List Value) (hx : a.eval x = .slice A m c) (hr : Row w size A m c news) (h1 : ∀ u ∈ news, u.oneCell' = true) (hc : n + m ≤ Cap) (hbase : base ≤ w.heap.size)
    (h : ∀ A' c' w', w'.ownsRow base e size (.slice A' (n + m) c') (n + m) (xs ++ news) → w.grownBy w' v.ownBlock → ((Value.slice A' (n + m) c').ownBlock = v.ownBlock ∨ (Value.slice A' (n + m) c').ownBlock = some w.heap.size) → K (a.put o.dst (.slice A' (n + m) c')) w') :
    if Region.wanted o (yielded ops a.tmps) = true then Oper.wp P o a w K Q else E := by
  rw [if_pos (by simp [Region.wanted, hgd])]
  exact wp_app T w s x ho base v n xs hs hown A m c news hx hr h1 hc hbase fun v' w' h2 h3 h4 => by
    obtain ⟨A', c', rfl, _⟩ := own_form h2
    exact h A' c' w' h2 h3 h4

/-- The same at a step of a region that draws its order. -/
theorem step_app {ops : Array Oper} {o : Oper} {a : Act} {K : Act → World → Prop} {Q : Exit → Act → World → Prop} {E : Prop} (T : SlTy P t e size bytes) (w : World) (hgd : o.guard = none) (s x : Operand)
    (ho : o.op = .call { callee := .builtin .append, args := #[s, x], argTypes := #[t, t] })
    (base : Nat) (v : Value) (n : Nat) (xs : List Value) (hs : a.eval s = v) (hown : w.ownsRow base e size v n xs)
    (A : Option Addr) (m c : Nat) (news : List Value) (hx : a.eval x = .slice A m c) (hr : Row w size A m c news) (h1 : ∀ u ∈ news, u.oneCell' = true) (hc : n + m ≤ Cap) (hbase : base ≤ w.heap.size)
    (h : ∀ v' w', w'.ownsRow base e size v' (n + m) (xs ++ news) → w.grownBy w' v.ownBlock → (v'.ownBlock = v.ownBlock ∨ v'.ownBlock = some w.heap.size) → K (a.put o.dst v') w') :
    if Region.wanted o (yielded ops a.tmps) = true then Oper.wp P o a w K Q else E := by
  rw [if_pos (by simp [Region.wanted, hgd])]
  exact wp_app T w s x ho base v n xs hs hown A m c news hx hr h1 hc hbase h
end
end Go.Proofs.YtbjknkgefpeohaaDoor
