/- What a deed comes to, over plain data; what the methods leave says that the deed is done so. Conditions: registers and fields in their bounds, lists shorter than 2^40. -/
import Derived.Test.YtbjknkgefpeohaaState
namespace Go.Proofs.Ytbjknkgefpeohaa
open Go.RowKit

/-- A deed's outcome: what refuses it, or the model, the registers and what is told. -/
abbrev Out := Int ⊕ (PModel × List Int × Int)
def layP (m : PModel) (r : List Int) (a f : Int) (o : PObj) : Out :=
  if f < 1 ∨ ∃ p ∈ m.objs, p.serial = f then .inl 1 else .inr (⟨m.objs ++ [{ o with serial := f }], m.queue⟩, r.set a.toNat f, f)
def fieldP (l : List PObj) (v : Int) (weak : Bool) (i : Int) (len : PObj → Nat) (k : Nat → PObj → PModel × List Int × Int) : Out :=
  match onE l v weak with
  | .inl c => .inl c
  | .inr j => match l[j]? with
    | none => .inl 143
    | some o => if i ≥ len o then .inl 71 else .inr (k j o)
def takeP (m : PModel) (r : List Int) (a s : Int) : PModel × List Int × Int :=
  match m.queue with
  | [] => (m, r.set a.toNat 0, 0)
  | q :: qs => if q.2 ≥ s then (m, r.set a.toNat 0, 0) else (⟨m.objs, qs⟩, r.set a.toNat q.1, q.1)
def freeP (m : PModel) (r : List Int) (v : Int) : Out :=
  match freeE m.objs v with
  | .inl c => .inl c
  | .inr j => match m.objs[j]? with
    | none => .inl 143
    | some o => .inr (⟨m.objs.set j { o with freed := true }, m.queue⟩, r, 0)
def weakP (m : PModel) (r : List Int) (a f v : Int) : Out :=
  if v = 0 ∨ m.objs.findIdx? (fun o => o.serial == v) = none then .inl 143 else layP m r a f ⟨0, 1, 0, true, false, [v], [], false⟩
/-- The state of a deed, in memory from block B on. -/
structure St (w : World) (g B : Nat) (x : DX) : Prop where
  whole : Whole w g 59 x.cells
  six : x.r.length = 6
  base : B ≤ g
  apart : g ∉ x.m.all
  qapart : (Value.slice x.m.Q x.m.qs.length x.m.qc).ownBlock ≠ some g
  own : x.m.Own w B
  told : x.t = 0
theorem St.no {w w' : World} {g B : Nat} {x : DX} (h : St w g B x) (hf : Fr No w w') : St w' g B x :=
  ⟨hf.whole h.whole (fun x => x), h.six, h.base, h.apart, h.qapart, h.own.no hf, h.told⟩
theorem St.hB {w : World} {g B : Nat} {x : DX} (h : St w g B x) : B ≤ w.heap.size := Nat.le_trans h.base (Nat.le_of_lt h.whole.lt)
theorem St.hng {w : World} {g B : Nat} {x : DX} (h : St w g B x) : (Value.slice x.m.A x.m.ros.length x.m.c).ownBlock ≠ some g := fun e => h.apart (by simp [RM.all, e])

/-- What do leaves, told by an outcome. -/
def DoneO (g B : Nat) (O : Out) (w : World) (e : Ending) (w' : World) : Prop := Fr (fun k => B ≤ k) w w' ∧
  ((∃ c, O = .inl c ∧ c ≠ 0 ∧ e = .returned (.int .i64 c)) ∨
   (∃ x' : DX, O = .inr (x'.m.pure, x'.r, x'.t) ∧ e = .returned (.int .i64 0) ∧ Whole w' g 59 x'.cells ∧ x'.m.ok w' ∧ x'.m.up B))
theorem done_ret {g B : Nat} {O : Out} {w w' : World} {e : Ending} (h : DoneO g B O w e w') : ∃ n, e = .returned (.int .i64 n) := by
  obtain ⟨_, ⟨c, _, _, rfl⟩ | ⟨_, _, rfl, _⟩⟩ := h <;> exact ⟨_, rfl⟩
theorem fr_no {w w' : World} {F : Nat → Prop} (h : Fr No w w') : Fr F w w' := h.mono (fun _ _ h => h.elim)

theorem done_free {g B : Nat} {x : DX} {w w' : World} {e : Ending} (h : St w g B x) (hq : Freed x w e w') : DoneO g B (freeP x.m.pure x.r (x.r.getD x.d.a.toNat 0)) w e w' := by
  rcases hq with ⟨c, hc, rfl, hf⟩ | ⟨i, b, o, w1, hi, hA, rfl, hf, hp⟩
  · refine ⟨fr_no hf, .inl ⟨c, ?_, ?_, rfl⟩⟩
    · unfold freeP RM.pure; simp only [hc]
    · unfold freeE at hc
      repeat' split at hc
      all_goals first | (injection hc with hc; omega) | cases hc
  · have hbB : B ≤ b := (h.own.own.objs.lt b (by simp [hA, Value.ownBlock])).1
    have hbg : g ≠ b := fun e => h.apart (by simp [RM.all, hA, Value.ownBlock, e])
    refine ⟨(fr_no hf).trans (hp.1.mono (fun k _ hk => by have hk' : k = b := hk; omega)), .inr ?_⟩
    obtain ⟨po, hpo⟩ : ∃ po, (x.m.ros.map RO.o)[i]? = some po := by
      unfold freeE at hi
      repeat' split at hi
      all_goals first | cases hi | skip
      exact ⟨_, by assumption⟩
    obtain ⟨r, hr, rfl⟩ : ∃ r, x.m.ros[i]? = some r ∧ r.o = po := by
      rw [List.getElem?_map] at hpo
      cases hx : x.m.ros[i]? with
      | none => rw [hx] at hpo; cases hpo
      | some r => rw [hx] at hpo; injection hpo with hpo; exact ⟨r, rfl, hpo⟩
    refine ⟨{ x with m := { x.m with ros := x.m.ros.set i { r with o := { r.o with freed := true } } } }, ?_, rfl, ?_, (h.own.no hf).put_freed hr hA hp, h.own.up.put hr rfl⟩
    · unfold freeP RM.pure
      simp only [hi, hpo, List.map_set, h.told]
    · have := (hf.whole h.whole (fun x => x))
      have := hp.1.whole this (fun e => hbg e)
      simpa [DX.cells] using this

theorem done_take {g B : Nat} {x : DX} {w w' : World} {e : Ending} (h : St w g B x) (hq : Taken g x w e w') : DoneO g B (.inr (takeP x.m.pure x.r x.d.a x.s)) w e w' := by
  obtain ⟨rfl, hf, hq⟩ := hq
  have hm : x.m.Own w' B := h.own.far hf (fun k hk e => h.apart (by have e' : k = g := e; exact e' ▸ hk)) (fun k hk e => h.qapart (by have e' : k = g := e; exact e' ▸ hk))
  refine ⟨hf.mono (fun k _ hk => by have hk' : k = g := hk; have := h.base; omega), .inr ?_⟩
  rcases hq with ⟨hn, hw⟩ | ⟨q, qs, he, hs, hw⟩
  · refine ⟨_, ?_, rfl, hw, hm.ok, hm.up⟩
    unfold takeP RM.pure
    cases hqs : x.m.qs with
    | nil => rfl
    | cons q qs => simp only [if_pos (hn q qs hqs)]
  · refine ⟨_, ?_, rfl, hw, ?_, ?_⟩
    · unfold takeP RM.pure
      simp only [he, if_neg (show ¬ q.2 ≥ x.s by omega)]
    · have hk := hm.ok
      have hr := hk.queue
      rw [he] at hr
      have hl := hk.nqueue
      rw [he] at hl
      exact ⟨hk.row, hk.objs, row_tail hr, hk.nobjs, by simp at hl; dsimp only; omega⟩
    · refine ⟨hm.up.objs, hm.up.lists, fun a ha => ?_⟩
      dsimp only at ha
      unfold qTail at ha
      split at ha
      · exact hm.up.queue a ha
      · cases hQ : x.m.Q with
        | none => rw [hQ] at ha; cases ha
        | some q =>
          rw [hQ] at ha
          injection ha with ha
          have hb : a.block = q.block := by rw [← ha]; unfold Addr.add; split <;> rfl
          rw [hb]
          exact hm.up.queue q hQ
end Go.Proofs.Ytbjknkgefpeohaa
