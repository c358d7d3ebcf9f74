/- The pure laws of chapter 18's statements: what Do answers on a fitted model, in plain Lean with no program in sight. Conditions: none. -/
import Derived.Test.YtbjknkgefpeohaaDo
import Derived.Test.YtbjknkgefpeohaaFitR
namespace Go.Proofs.Ytbjknkgefpeohaa

/-- Of a raw object at place i of n, one that fits. -/
def fitO (n i : Nat) (r : PObj) : PObj :=
  if r.weak then ⟨(i : Int) + 1, 1, 0, true, false, [1 + pickZ r.serial n], [], r.freed⟩
  else ⟨(i : Int) + 1, (min r.ptrs.length 4 : Nat), (min r.nums.length 4 : Nat), false, r.fin, (r.ptrs.take 4).map (pickZ · ((n : Int) + 1)), r.nums.take 4, r.freed⟩
def fitN8 (raw : List PObj) : Nat := min raw.length 8
def fitItem (n i : Nat) (q : Int × Int) : Int × Int := (1 + pickZ q.1 n, (i : Int))
/-- Of raw objects and items, a model. -/
def fitM (raw : List PObj) (items : List (Int × Int)) : PModel :=
  ⟨(raw.take (fitN8 raw)).mapIdx (fitO (fitN8 raw)), if fitN8 raw = 0 then [] else (items.take 4).mapIdx (fitItem (fitN8 raw))⟩

/-- A model as Fit makes it: its objects' serials are 1, 2, and so on. -/
structure Good (m : PModel) : Prop where
  serial : ∀ (i : Nat) o, m.objs[i]? = some o → o.serial = (i : Int) + 1
  shape : ∀ o ∈ m.objs, o.np = o.ptrs.length ∧ o.nd = o.nums.length

theorem fit_len (raw : List PObj) (items : List (Int × Int)) : (fitM raw items).objs.length = fitN8 raw := by
  simp [fitM, fitN8]
theorem fit_good (raw : List PObj) (items : List (Int × Int)) : Good (fitM raw items) := by
  have hone : ∀ (n i : Nat) r, (fitO n i r).serial = (i : Int) + 1 ∧ (fitO n i r).np = (fitO n i r).ptrs.length ∧ (fitO n i r).nd = (fitO n i r).nums.length := by
    intro n i r
    unfold fitO
    split
    · simp
    · simp [Nat.min_comm]
  refine ⟨fun i o h => ?_, fun o h => ?_⟩
  · simp only [fitM, List.getElem?_mapIdx] at h
    cases hr : (raw.take (fitN8 raw))[i]? with
    | none => rw [hr] at h; cases h
    | some r => rw [hr] at h; injection h with h; rw [← h]; exact (hone _ _ _).1
  · simp only [fitM] at h
    obtain ⟨i, hi, rfl⟩ := List.mem_mapIdx.1 h
    exact (hone _ _ _).2

theorem Good.idx {m : PModel} (h : Good m) (v : Int) : m.objs.findIdx? (fun o => o.serial == v) = if 1 ≤ v ∧ v ≤ m.objs.length then some (v - 1).toNat else none := by
  split
  · next hv =>
    have hl : (v - 1).toNat < m.objs.length := by omega
    rw [List.findIdx?_eq_some_iff_getElem]
    refine ⟨hl, ?_, fun j hj => ?_⟩
    · have := h.serial _ _ (List.getElem?_eq_getElem hl)
      simp only [beq_iff_eq]
      omega
    · have := h.serial _ _ (List.getElem?_eq_getElem (show j < m.objs.length by omega))
      simp only [beq_iff_eq]
      omega
  · next hv =>
    rw [List.findIdx?_eq_none_iff]
    intro o ho
    obtain ⟨i, hi, rfl⟩ := List.getElem_of_mem ho
    have := h.serial _ _ (List.getElem?_eq_getElem hi)
    simp only [beq_eq_false_iff_ne]
    omega

/-- What a register's number leads to. -/
def lookP (m : PModel) (v : Int) : Option PObj := if 1 ≤ v then m.objs[(v - 1).toNat]? else none
theorem look_some {m : PModel} {v : Int} {o : PObj} (h : lookP m v = some o) : 1 ≤ v ∧ v ≤ m.objs.length ∧ m.objs[(v - 1).toNat]? = some o := by
  unfold lookP at h
  split at h
  · have := (List.getElem?_eq_some_iff.1 h).1
    exact ⟨by omega, by omega, h⟩
  · cases h
theorem look_none {m : PModel} {v : Int} (h : lookP m v = none) : ¬ (1 ≤ v ∧ v ≤ m.objs.length) := by
  unfold lookP at h
  split at h
  · rw [List.getElem?_eq_none_iff] at h
    omega
  · omega
theorem Good.look_idx {m : PModel} (h : Good m) (v : Int) : m.objs.findIdx? (fun o => o.serial == v) = (lookP m v).map fun _ => (v - 1).toNat := by
  rw [h.idx]
  cases hl : lookP m v with
  | none => rw [if_neg (look_none hl)]; rfl
  | some o => have := look_some hl; rw [if_pos ⟨this.1, this.2.1⟩]; rfl

theorem Good.on {m : PModel} (h : Good m) (v : Int) (weak : Bool) : onE m.objs v weak = match lookP m v with
    | none => .inl 143
    | some o => if o.freed then .inl 142 else if o.weak ≠ weak then .inl 144 else .inr (v - 1).toNat := by
  unfold onE
  rw [h.look_idx]
  cases hl : lookP m v with
  | none => simp
  | some o =>
    obtain ⟨h1, h2, h3⟩ := look_some hl
    rw [if_neg (by omega)]
    simp only [Option.map_some, h3]
theorem Good.field {m : PModel} (h : Good m) (v : Int) (weak : Bool) (i : Int) (len : PObj → Nat) (k : Nat → PObj → PModel × List Int × Int) : fieldP m.objs v weak i len k = match lookP m v with
    | none => .inl 143
    | some o => if o.freed then .inl 142 else if o.weak ≠ weak then .inl 144 else if i ≥ len o then .inl 71 else .inr (k (v - 1).toNat o) := by
  unfold fieldP
  rw [h.on]
  cases hl : lookP m v with
  | none => rfl
  | some o =>
    obtain ⟨h1, h2, h3⟩ := look_some hl
    dsimp only
    by_cases hf : o.freed = true
    · simp only [hf, if_true]
    · by_cases hw : o.weak ≠ weak
      · simp only [hf, if_pos hw, Bool.false_eq_true, if_false]
      · simp only [hf, if_neg hw, Bool.false_eq_true, if_false, h3]
theorem Good.freeE {m : PModel} (h : Good m) (v : Int) : freeE m.objs v = match lookP m v with
    | none => .inl 143
    | some o => if o.freed then .inl 142 else .inr (v - 1).toNat := by
  unfold Proofs.Ytbjknkgefpeohaa.freeE
  rw [h.look_idx]
  cases hl : lookP m v with
  | none => simp
  | some o =>
    obtain ⟨h1, h2, h3⟩ := look_some hl
    rw [if_neg (by omega)]
    simp only [Option.map_some, h3]
theorem Good.free {m : PModel} (h : Good m) (r : List Int) (v : Int) : freeP m r v = match lookP m v with
    | none => .inl 143
    | some o => if o.freed then .inl 142 else .inr (⟨m.objs.set (v - 1).toNat { o with freed := true }, m.queue⟩, r, 0) := by
  unfold freeP
  rw [h.freeE]
  cases hl : lookP m v with
  | none => rfl
  | some o =>
    obtain ⟨h1, h2, h3⟩ := look_some hl
    dsimp only
    by_cases hf : o.freed = true
    · simp only [hf, if_true]
    · simp only [hf, Bool.false_eq_true, if_false, h3]
theorem Good.fresh {m : PModel} (h : Good m) : ¬ ∃ p ∈ m.objs, p.serial = (m.objs.length : Int) + 1 := by
  rintro ⟨p, hp, e⟩
  obtain ⟨i, hi, rfl⟩ := List.getElem_of_mem hp
  have := h.serial _ _ (List.getElem?_eq_getElem hi)
  omega

/-- Two lists are alike but at one place. -/
def OneOff (a b : List PObj) : Prop := ∃ k : Nat, ∀ i : Nat, i < a.length → i ≠ k → b[i]? = a[i]?
/-- what stays of an object whatever a deed does. -/
def Kept (a b : PObj) : Prop := a.serial = b.serial ∧ a.np = b.np ∧ a.nd = b.nd ∧ a.weak = b.weak ∧ a.fin = b.fin ∧ (a.freed = true → b.freed = true)
theorem Kept.refl (a : PObj) : Kept a a := ⟨rfl, rfl, rfl, rfl, rfl, id⟩

structure Keeps (c : PDeed) (m : PModel) (r : List Int) (n : PModel) (s : List Int) (v : Int) : Prop where
  len : n.objs.length = m.objs.length + if c.kind = 1 ∨ c.kind = 2 ∨ c.kind = 3 then 1 else 0
  last : c.kind = 1 ∨ c.kind = 2 ∨ c.kind = 3 → ∃ o, n.objs[m.objs.length]? = some o ∧ o.serial = (m.objs.length : Int) + 1
  kept : ∀ (i : Nat) a b, m.objs[i]? = some a → n.objs[i]? = some b → Kept a b
  one : OneOff m.objs n.objs
  regs : ∀ i : Nat, (i : Int) ≠ c.a → s[i]? = r[i]?
  queue : n.queue = m.queue ∨ (c.kind = 10 ∧ n.objs = m.objs ∧ ∃ q, m.queue = q :: n.queue ∧ v = q.1)

theorem keeps_same {c : PDeed} {m : PModel} {r s : List Int} {v : Int} (hk : ¬ (c.kind = 1 ∨ c.kind = 2 ∨ c.kind = 3)) (h : ∀ i : Nat, (i : Int) ≠ c.a → s[i]? = r[i]?) : Keeps c m r m s v :=
  ⟨by rw [if_neg hk]; rfl, fun h => absurd h hk, fun i a b h1 h2 => by rw [h1] at h2; injection h2 with h2; exact h2 ▸ Kept.refl a, ⟨0, fun _ _ _ => rfl⟩, h, .inl rfl⟩
theorem keeps_set {c : PDeed} {m : PModel} {r : List Int} {v : Int} {k : Nat} {o o' : PObj} (hk : ¬ (c.kind = 1 ∨ c.kind = 2 ∨ c.kind = 3)) (ho : m.objs[k]? = some o) (h : Kept o o') : Keeps c m r ⟨m.objs.set k o', m.queue⟩ r v :=
  ⟨by rw [if_neg hk]; simp, fun h => absurd h hk, fun i a b h1 h2 => by
    dsimp only at h2
    by_cases hik : k = i
    · subst hik
      rw [ho] at h1; injection h1 with h1; subst h1
      rw [List.getElem?_set_self (List.getElem?_eq_some_iff.1 ho).1] at h2
      injection h2 with h2
      exact h2 ▸ h
    · rw [List.getElem?_set_ne hik, h1] at h2
      injection h2 with h2
      exact h2 ▸ Kept.refl a, ⟨k, fun i _ hik => List.getElem?_set_ne (fun e => hik e.symm)⟩, fun _ _ => rfl, .inl rfl⟩
theorem keeps_reg {r : List Int} {a x : Int} (ha : 0 ≤ a) : ∀ i : Nat, (i : Int) ≠ a → (r.set a.toNat x)[i]? = r[i]? := fun i hi => List.getElem?_set_ne (by omega)
theorem keeps_lay {c : PDeed} {m : PModel} {r : List Int} {o : PObj} (hc : 0 ≤ c.a) (hk : c.kind = 1 ∨ c.kind = 2 ∨ c.kind = 3) {n : PModel} {s : List Int} {v : Int} (h : layP m r c.a ((m.objs.length : Int) + 1) o = .inr (n, s, v)) : Keeps c m r n s v := by
  unfold layP at h
  split at h
  · cases h
  · injection h with h
    injection h with h1 h
    injection h with h2 h3
    subst h1 h2 h3
    refine ⟨by rw [if_pos hk]; simp, fun _ => ⟨{ o with serial := (m.objs.length : Int) + 1 }, by simp, rfl⟩, fun i a b h1 h2 => ?_, ⟨0, fun i hi _ => List.getElem?_append_left hi⟩, keeps_reg hc, .inl rfl⟩
    dsimp only at h2
    rw [List.getElem?_append_left (List.getElem?_eq_some_iff.1 h1).1, h1] at h2
    injection h2 with h2
    exact h2 ▸ Kept.refl a

theorem right_a {c : PDeed} (h : rightP c = true) : 0 ≤ c.a ∧ c.a ≤ 5 := by
  have hf := right_fits h
  have ho := right_only h
  rcases right_kind h with hk | hk | hk | hk | hk | hk | hk | hk | hk | hk | hk | hk | hk | hk <;> rw [hk] at hf ho
  case inr.inr.inr.inr.inr.inr.inr.inr.inr.inr.inr.inr.inr =>
    have : c.a = 0 := by rw [← ho]; rfl
    omega
  all_goals exact hf pA (by simp [partsOf])

/-- What refuses a deed is no 0. -/
theorem lay_code {m : PModel} {r : List Int} {a f : Int} {o : PObj} {e : Int} (h : layP m r a f o = .inl e) : e ≠ 0 := by
  unfold layP at h
  split at h
  · injection h with h; omega
  · cases h
theorem field_code {l : List PObj} {v : Int} {weak : Bool} {i : Int} {len : PObj → Nat} {k : Nat → PObj → PModel × List Int × Int} {e : Int} (h : fieldP l v weak i len k = .inl e) : e ≠ 0 := by
  unfold fieldP onE at h
  repeat' split at h
  all_goals first | cases h | skip
  all_goals
    rename_i hq
    repeat' split at hq
  all_goals first | cases hq | skip
  all_goals omega
theorem weak_code {m : PModel} {r : List Int} {a f v : Int} {e : Int} (h : weakP m r a f v = .inl e) : e ≠ 0 := by
  unfold weakP at h
  split at h
  · injection h with h; omega
  · exact lay_code h
theorem free_code {m : PModel} {r : List Int} {v : Int} {e : Int} (h : freeP m r v = .inl e) : e ≠ 0 := by
  unfold freeP Proofs.Ytbjknkgefpeohaa.freeE at h
  repeat' split at h
  all_goals first | cases h | skip
  all_goals
    rename_i hq
    repeat' split at hq
  all_goals first | cases hq | skip
  all_goals omega

section
variable {d : PDeed} {m : PModel} {r : List Int} {f s : Int}
theorem deed_lay (h : d.kind = 1 ∨ d.kind = 2) : deedP d m r f s = layP m r d.a f ⟨0, d.i, d.n, false, decide (d.kind = 2), List.replicate d.i.toNat 0, List.replicate d.n.toNat 0, false⟩ := by unfold deedP; rw [if_pos h]
theorem deed_3 (h : d.kind = 3) : deedP d m r f s = weakP m r d.a f (r.getD d.b.toNat 0) := by unfold deedP; rw [if_neg (by omega), if_pos h]
theorem deed_4 (h : d.kind = 4) : deedP d m r f s = fieldP m.objs (r.getD d.b.toNat 0) false d.i (fun o => o.ptrs.length) fun _ o => (m, r.set d.a.toNat (o.ptrs.getD d.i.toNat 0), o.ptrs.getD d.i.toNat 0) := by unfold deedP; rw [if_neg (by omega), if_neg (by omega), if_pos h]
theorem deed_9 (h : d.kind = 9) : deedP d m r f s = fieldP m.objs (r.getD d.b.toNat 0) true d.i (fun o => o.ptrs.length) fun _ o => (m, r.set d.a.toNat (o.ptrs.getD d.i.toNat 0), o.ptrs.getD d.i.toNat 0) := by unfold deedP; rw [if_neg (by omega), if_neg (by omega), if_neg (by omega), if_pos h]
theorem deed_10 (h : d.kind = 10) : deedP d m r f s = .inr (takeP m r d.a s) := by unfold deedP; rw [if_neg (by omega), if_neg (by omega), if_neg (by omega), if_neg (by omega), if_pos h]
theorem deed_5 (h : d.kind = 5) : deedP d m r f s = fieldP m.objs (r.getD d.a.toNat 0) false d.i (fun o => o.ptrs.length) fun j o => (⟨m.objs.set j { o with ptrs := o.ptrs.set d.i.toNat (r.getD d.b.toNat 0) }, m.queue⟩, r, 0) := by unfold deedP; rw [if_neg (by omega), if_neg (by omega), if_neg (by omega), if_neg (by omega), if_neg (by omega), if_pos h]
theorem deed_6 (h : d.kind = 6) : deedP d m r f s = fieldP m.objs (r.getD d.a.toNat 0) false d.i (fun o => o.nums.length) fun _ o => (m, r, o.nums.getD d.i.toNat 0) := by unfold deedP; rw [if_neg (by omega), if_neg (by omega), if_neg (by omega), if_neg (by omega), if_neg (by omega), if_neg (by omega), if_pos h]
theorem deed_7 (h : d.kind = 7) : deedP d m r f s = fieldP m.objs (r.getD d.a.toNat 0) false d.i (fun o => o.nums.length) fun j o => (⟨m.objs.set j { o with nums := o.nums.set d.i.toNat d.n }, m.queue⟩, r, 0) := by unfold deedP; rw [if_neg (by omega), if_neg (by omega), if_neg (by omega), if_neg (by omega), if_neg (by omega), if_neg (by omega), if_neg (by omega), if_pos h]
theorem deed_8 (h : d.kind = 8) : deedP d m r f s = freeP m r (r.getD d.a.toNat 0) := by unfold deedP; rw [if_neg (by omega), if_neg (by omega), if_neg (by omega), if_neg (by omega), if_neg (by omega), if_neg (by omega), if_neg (by omega), if_neg (by omega), if_pos h]
theorem deed_11 (h : d.kind = 11) : deedP d m r f s = .inr (m, r, if r.getD d.a.toNat 0 = r.getD d.b.toNat 0 then 1 else 0) := by unfold deedP; rw [if_neg (by omega), if_neg (by omega), if_neg (by omega), if_neg (by omega), if_neg (by omega), if_neg (by omega), if_neg (by omega), if_neg (by omega), if_neg (by omega), if_pos h]
theorem deed_12 (h : d.kind = 12) : deedP d m r f s = .inr (m, r.set d.a.toNat (r.getD d.b.toNat 0), 0) := by unfold deedP; rw [if_neg (by omega), if_neg (by omega), if_neg (by omega), if_neg (by omega), if_neg (by omega), if_neg (by omega), if_neg (by omega), if_neg (by omega), if_neg (by omega), if_neg (by omega), if_pos h]
theorem deed_13 (h : d.kind = 13) : deedP d m r f s = .inr (m, r.set d.a.toNat 0, 0) := by unfold deedP; rw [if_neg (by omega), if_neg (by omega), if_neg (by omega), if_neg (by omega), if_neg (by omega), if_neg (by omega), if_neg (by omega), if_neg (by omega), if_neg (by omega), if_neg (by omega), if_neg (by omega), if_pos h]
theorem deed_14 (h : d.kind = 14) : deedP d m r f s = .inr (m, r, 0) := by unfold deedP; rw [if_neg (by omega), if_neg (by omega), if_neg (by omega), if_neg (by omega), if_neg (by omega), if_neg (by omega), if_neg (by omega), if_neg (by omega), if_neg (by omega), if_neg (by omega), if_neg (by omega), if_neg (by omega)]
end
/-- What keeps and codes come to, deed by deed. -/
theorem deed_keeps {c : PDeed} {m : PModel} {r : List Int} {s : Int} (hg : Good m) (hr : rightP c = true) :
    (∀ e, deedP c m r ((m.objs.length : Int) + 1) s = .inl e → e ≠ 0) ∧ ∀ n s' v, deedP c m r ((m.objs.length : Int) + 1) s = .inr (n, s', v) → Keeps c m r n s' v := by
  have ha := (right_a hr).1
  have hfield : ∀ (x : Int) (weak : Bool) (len : PObj → Nat) (k : Nat → PObj → PModel × List Int × Int), (∀ o, lookP m x = some o → Keeps c m r (k (x - 1).toNat o).1 (k (x - 1).toNat o).2.1 (k (x - 1).toNat o).2.2) →
      ∀ n s' v, fieldP m.objs x weak c.i len k = .inr (n, s', v) → Keeps c m r n s' v := by
    intro x weak len k hk n s' v h
    rw [hg.field] at h
    cases hl : lookP m x with
    | none => rw [hl] at h; cases h
    | some o =>
      rw [hl] at h
      have hk' := hk o hl
      dsimp only at h
      repeat' split at h
      all_goals first | cases h | skip
      injection h with h
      rw [h] at hk'
      exact hk'
  have hset : ∀ (x : Int) (o : PObj), ¬ (c.kind = 1 ∨ c.kind = 2 ∨ c.kind = 3) → lookP m x = some o → ∀ o' v, Kept o o' → Keeps c m r ⟨m.objs.set (x - 1).toNat o', m.queue⟩ r v := fun x o hk hl o' v h => keeps_set hk (look_some hl).2.2 h
  rcases right_kind hr with hk | hk | hk | hk | hk | hk | hk | hk | hk | hk | hk | hk | hk | hk
  · rw [deed_lay (.inl hk)]
    exact ⟨fun e h => lay_code h, fun n s' v h => keeps_lay ha (by omega) h⟩
  · rw [deed_lay (.inr hk)]
    exact ⟨fun e h => lay_code h, fun n s' v h => keeps_lay ha (by omega) h⟩
  · rw [deed_3 hk]
    refine ⟨fun e h => weak_code h, fun n s' v h => ?_⟩
    unfold weakP at h
    split at h
    · cases h
    · exact keeps_lay ha (by omega) h
  · rw [deed_4 hk]
    refine ⟨fun e h => field_code h, hfield _ _ _ _ fun o _ => keeps_same (by omega) (keeps_reg ha)⟩
  · rw [deed_5 hk]
    refine ⟨fun e h => field_code h, hfield _ _ _ _ fun o hl => hset _ o (by omega) hl _ _ ⟨rfl, rfl, rfl, rfl, rfl, id⟩⟩
  · rw [deed_6 hk]
    refine ⟨fun e h => field_code h, hfield _ _ _ _ fun o _ => keeps_same (by omega) (fun _ _ => rfl)⟩
  · rw [deed_7 hk]
    refine ⟨fun e h => field_code h, hfield _ _ _ _ fun o hl => hset _ o (by omega) hl _ _ ⟨rfl, rfl, rfl, rfl, rfl, id⟩⟩
  · rw [deed_8 hk]
    refine ⟨fun e h => free_code h, fun n s' v h => ?_⟩
    have h' := h
    rw [hg.free] at h'
    cases hl : lookP m (r.getD c.a.toNat 0) with
    | none => rw [hl] at h'; cases h'
    | some o =>
      rw [hl] at h'
      dsimp only at h'
      split at h'
      · cases h'
      · injection h' with h'
        injection h' with h1 h'
        injection h' with h2 h3
        subst h1 h2 h3
        exact hset _ o (by omega) hl _ _ ⟨rfl, rfl, rfl, rfl, rfl, fun _ => rfl⟩
  · rw [deed_9 hk]
    refine ⟨fun e h => field_code h, hfield _ _ _ _ fun o _ => keeps_same (by omega) (keeps_reg ha)⟩
  · rw [deed_10 hk]
    refine ⟨fun e h => (by cases h), fun n s' v h => ?_⟩
    have h' : (Sum.inr (takeP m r c.a s) : Out) = .inr (n, s', v) := h
    injection h' with h'
    unfold takeP at h'
    cases hq : m.queue with
    | nil =>
      rw [hq] at h'
      injection h' with h1 h'
      injection h' with h2 h3
      subst h1 h2 h3
      exact keeps_same (by omega) (keeps_reg ha)
    | cons q qs =>
      rw [hq] at h'
      dsimp only at h'
      split at h'
      · injection h' with h1 h'
        injection h' with h2 h3
        subst h1 h2 h3
        exact keeps_same (by omega) (keeps_reg ha)
      · injection h' with h1 h'
        injection h' with h2 h3
        subst h1 h2 h3
        have hb := keeps_same (c := c) (m := m) (r := r) (v := q.1) (by omega) (keeps_reg (r := r) (x := q.1) ha)
        exact ⟨hb.len, hb.last, hb.kept, hb.one, hb.regs, .inr ⟨hk, rfl, q, hq, rfl⟩⟩
  · rw [deed_11 hk]
    refine ⟨fun e h => (by cases h), fun n s' v h => ?_⟩
    have h' : (Sum.inr (m, r, if r.getD c.a.toNat 0 = r.getD c.b.toNat 0 then 1 else 0) : Out) = .inr (n, s', v) := h
    injection h' with h'
    injection h' with h1 h'
    injection h' with h2 h3
    subst h1 h2
    exact keeps_same (by omega) (fun _ _ => rfl)
  · rw [deed_12 hk]
    refine ⟨fun e h => (by cases h), fun n s' v h => ?_⟩
    have h' : (Sum.inr (m, r.set c.a.toNat (r.getD c.b.toNat 0), 0) : Out) = .inr (n, s', v) := h
    injection h' with h'
    injection h' with h1 h'
    injection h' with h2 h3
    subst h1 h2
    exact keeps_same (by omega) (keeps_reg ha)
  · rw [deed_13 hk]
    refine ⟨fun e h => (by cases h), fun n s' v h => ?_⟩
    have h' : (Sum.inr (m, r.set c.a.toNat 0, 0) : Out) = .inr (n, s', v) := h
    injection h' with h'
    injection h' with h1 h'
    injection h' with h2 h3
    subst h1 h2
    exact keeps_same (by omega) (keeps_reg ha)
  · rw [deed_14 hk]
    refine ⟨fun e h => (by cases h), fun n s' v h => ?_⟩
    have h' : (Sum.inr (m, r, 0) : Out) = .inr (n, s', v) := h
    injection h' with h'
    injection h' with h1 h'
    injection h' with h2 h3
    subst h1 h2
    exact keeps_same (by omega) (fun _ _ => rfl)

/-- The law of ModelKeeps. -/
theorem keeps_law {c : PDeed} {m n : PModel} {r s' : List Int} {s v e : Int} (hg : Good m) (hr : rightP c = true) (h : doF c m r ((m.objs.length : Int) + 1) s = (n, s', v, e)) :
    (e ≠ 0 ∧ n = m ∧ s' = r ∧ v = 0) ∨ (e = 0 ∧ Keeps c m r n s' v) := by
  obtain ⟨h1, h2⟩ := deed_keeps (r := r) (s := s) hg hr
  unfold doF at h
  rw [if_pos hr] at h
  cases hd : deedP c m r ((m.objs.length : Int) + 1) s with
  | inl e' =>
    rw [hd] at h
    injection h with a1 h
    injection h with a2 h
    injection h with a3 a4
    subst a1 a2 a3 a4
    exact .inl ⟨h1 _ hd, rfl, rfl, rfl⟩
  | inr o =>
    obtain ⟨n', s'', v'⟩ := o
    rw [hd] at h
    injection h with a1 h
    injection h with a2 h
    injection h with a3 a4
    subst a1 a2 a3 a4
    exact .inr ⟨rfl, h2 _ _ _ hd⟩
end Go.Proofs.Ytbjknkgefpeohaa
