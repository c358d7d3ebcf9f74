/- What stays readable of a model of one's own while one of its blocks is changed. Conditions: none; plain lemmas. -/
import Derived.Test.YtbjknkgefpeohaaWeak
namespace Go.Proofs.Ytbjknkgefpeohaa
open Go.RowKit

theorem Row.put {w w' : World} {size n c b o i : Nat} {xs : List Value} {v : Value} (h : Row w size (some ⟨b, o, none⟩) n c xs) (hp : PutAt w w' b (o + i) v) (hi : i < xs.length) : Row w' size (some ⟨b, o, none⟩) n c (xs.set i v) := by
  refine ⟨by simpa using h.1, h.2.1, fun hn => ?_⟩
  obtain ⟨b', o', hA, hb, hc⟩ := h.2.2 hn
  injection hA with hA
  injection hA with e1 e2 _
  subst e1 e2
  refine ⟨b, o, rfl, Nat.lt_of_lt_of_le hb hp.1.size, fun j u hu => ?_⟩
  have hw : w'.cell? ⟨b, o + j, none⟩ = (w.setCell ⟨b, o + i, none⟩ v).cell? ⟨b, o + j, none⟩ := World.cell?_of_block (w := w.setCell ⟨b, o + i, none⟩ v) (a := ⟨b, o + j, none⟩) hp.2
  rw [hw]
  by_cases hij : i = j
  · subst hij
    rw [List.getElem?_set_self hi] at hu
    injection hu with hu
    subst hu
    exact World.cell?_setCell_same _ _ _ (hc i _ (List.getElem?_eq_getElem hi))
  · rw [List.getElem?_set_ne hij] at hu
    rw [World.cell?_setCell_other]
    · exact hc j u hu
    · intro e
      injection e with _ e _
      omega

def RO.caps (r : RO) : Prop := r.o.ptrs.length ≤ Cap ∧ r.o.nums.length ≤ Cap
theorem RO.own.ok {w : World} {B : Nat} {r : RO} (h : r.own w B) (hc : r.caps) : r.ok w := by
  obtain ⟨A, c, h1, _⟩ := own_form h.1
  obtain ⟨A', c', h2, _⟩ := own_form h.2
  exact ⟨A, c, A', c', h1, h2, Row.of_own (h1 ▸ h.1), Row.of_own (h2 ▸ h.2), hc.1, hc.2⟩

/-- A model of one's own in bounds. -/
structure RM.Own (w : World) (B : Nat) (m : RM) : Prop where
  own : m.own w B
  caps : ∀ r ∈ m.ros, r.caps
  nobjs : m.ros.length + 1 ≤ Cap
  nq : m.qs.length ≤ Cap
def RM.all (m : RM) : List Nat := (Value.slice m.A m.ros.length m.c).ownBlock.toList ++ m.ros.flatMap RO.blocks

theorem RM.Own.no {w w' : World} {B : Nat} {m : RM} (h : m.Own w B) (hf : Fr No w w') : m.Own w' B :=
  ⟨⟨h.own.objs.no hf, own_fr h.own.queue hf (fun _ _ x => x), h.own.apart⟩, h.caps, h.nobjs, h.nq⟩
theorem RM.Own.far {F : Nat → Prop} {w w' : World} {B : Nat} {m : RM} (h : m.Own w B) (hf : Fr F w w') (h1 : ∀ k ∈ m.all, ¬ F k) (h2 : ∀ k, (Value.slice m.Q m.qs.length m.qc).ownBlock = some k → ¬ F k) : m.Own w' B :=
  ⟨⟨h.own.objs.fr hf h1, own_fr h.own.queue hf h2, h.own.apart⟩, h.caps, h.nobjs, h.nq⟩
theorem RM.Own.ok {w : World} {B : Nat} {m : RM} (h : m.Own w B) : m.ok w :=
  ⟨Row.of_own h.own.objs.1, fun r hr => (h.own.objs.2.1 r hr).ok (h.caps r hr), Row.of_own h.own.queue, by have := h.nobjs; omega, h.nq⟩

/-- All blocks of a model lie from B on. -/
structure RM.up (B : Nat) (m : RM) : Prop where
  objs : ∀ a, m.A = some a → B ≤ a.block
  lists : ∀ r ∈ m.ros, ∀ k ∈ r.blocks, B ≤ k
  queue : ∀ a, m.Q = some a → B ≤ a.block
theorem RM.Own.up {w : World} {B : Nat} {m : RM} (h : m.Own w B) : m.up B :=
  ⟨fun a ha => (h.own.objs.lt a.block (by simp [ha, Value.ownBlock])).1, fun r hr k hk => (h.own.objs.lt k (List.mem_append_right _ (List.mem_flatMap.2 ⟨r, hr, hk⟩))).1, fun a ha => (h.own.queue.lt a.block (by simp [ha, Value.ownBlock])).1⟩
theorem RM.ok.fr {F : Nat → Prop} {w w' : World} {B : Nat} {m : RM} (h : m.ok w) (hu : m.up B) (hf : Fr F w w') (hF : ∀ k, F k → k < B) : m.ok w' := by
  refine ⟨h.row.fr hf (fun b o hA hb => by have h1 := hu.objs _ hA; have h2 := hF b hb; dsimp only at h1; omega), fun r hr => ?_, h.queue.fr hf (fun b o hA hb => by have h1 := hu.queue _ hA; have h2 := hF b hb; dsimp only at h1; omega), h.nobjs, h.nqueue⟩
  obtain ⟨pA, pc, nA, nc, e1, e2, r1, r2, c1, c2⟩ := h.objs r hr
  have hl := hu.lists r hr
  refine ⟨pA, pc, nA, nc, e1, e2, r1.fr hf (fun b o hA hb => ?_), r2.fr hf (fun b o hA hb => ?_), c1, c2⟩
  · have h1 := hl b (by simp [RO.blocks, e1, hA, Value.ownBlock])
    have h2 := hF b hb
    omega
  · have h1 := hl b (by simp [RO.blocks, e2, hA, Value.ownBlock])
    have h2 := hF b hb
    omega
theorem RM.up.put {B : Nat} {m : RM} (h : m.up B) {i : Nat} {r r' : RO} (hr : m.ros[i]? = some r) (hb : r'.blocks = r.blocks) : RM.up B { m with ros := m.ros.set i r' } :=
  ⟨h.objs, fun x hx => by
    rcases List.mem_or_eq_of_mem_set hx with hx | rfl
    · exact h.lists x hx
    · rw [hb]; exact h.lists r (List.mem_of_getElem? hr), h.queue⟩

theorem ros_split {ros : List RO} {i : Nat} {r : RO} (h : ros[i]? = some r) : ∃ l1 l2, ros = l1 ++ r :: l2 ∧ ∀ r', ros.set i r' = l1 ++ r' :: l2 := by
  obtain ⟨hi, rfl⟩ := List.getElem?_eq_some_iff.1 h
  refine ⟨ros.take i, ros.drop (i + 1), ?_, fun r' => ?_⟩
  · rw [List.getElem_cons_drop, List.take_append_drop]
  · rw [List.set_eq_take_append_cons_drop, if_pos hi]

theorem rowOf_freed (ros : List RO) : ∀ (i : Nat) (r : RO), ros[i]? = some r → rowOf (ros.set i { r with o := { r.o with freed := true } }) = (rowOf ros).set (i * 8 + 7) (.bool true) := by
  induction ros with
  | nil => intro i r h; simp at h
  | cons x l ih =>
    intro i r h
    have hc : ∀ y : RO, rowOf (y :: l) = y.cells ++ rowOf l := fun _ => rfl
    cases i with
    | zero =>
      simp at h; subst h
      simp only [List.set_cons_zero, hc]
      rw [List.set_append_left _ _ (by rw [RO.cells_length]; omega)]
      rfl
    | succ i =>
      have e : (i + 1) * 8 + 7 = 8 + (i * 8 + 7) := by omega
      have h' : l[i]? = some r := by simpa using h
      simp only [List.set_cons_succ]
      have e2 : ∀ l' : List RO, rowOf (x :: l') = x.cells ++ rowOf l' := fun _ => rfl
      rw [e2, e2, ih i r h', List.set_append_right _ _ (by rw [RO.cells_length]; omega), RO.cells_length]
      congr 2
      omega

/-- One list of one object is changed. -/
theorem RM.Own.put {w w' : World} {B : Nat} {m : RM} (h : m.Own w B) {i : Nat} {r r' : RO} (hr : m.ros[i]? = some r) {b : Nat} (hb : b ∈ r.blocks) (hf : Fr (Only b) w w') (hc : r'.cells = r.cells) (hr' : r'.ok w') : RM.ok w' { m with ros := m.ros.set i r' } := by
  obtain ⟨l1, l2, hros, hset⟩ := ros_split hr
  have hnd := h.own.objs.2.2
  have hbm : b ∈ m.ros.flatMap RO.blocks := List.mem_flatMap.2 ⟨r, by rw [hros]; simp, hb⟩
  have hA : ∀ g, (Value.slice m.A m.ros.length m.c).ownBlock = some g → ¬ Only b g := by
    intro g hg e
    have e' : g = b := e
    subst e'
    rw [List.nodup_append] at hnd
    exact hnd.2.2 g (by simp [hg]) g hbm rfl
  have hQ : ∀ g, (Value.slice m.Q m.qs.length m.qc).ownBlock = some g → ¬ Only b g := by
    intro g hg e
    have e' : g = b := e
    subst e'
    exact h.own.apart g (List.mem_append_right _ hbm) hg
  have hrow : rowOf (m.ros.set i r') = rowOf m.ros := by rw [hset, hros]; simp [rowOf, hc]
  have h1 := Row.of_own (own_fr h.own.objs.1 hf hA)
  have h2 := Row.of_own (own_fr h.own.queue hf hQ)
  refine ⟨?_, ?_, h2, by simpa using (by have := h.nobjs; omega : m.ros.length ≤ Cap), h.nq⟩
  · dsimp only
    rw [hrow, List.length_set]
    exact h1
  · intro x hx
    dsimp only at hx
    rw [hset] at hx
    have hold : x ∈ l1 ∨ x ∈ l2 → x.ok w' := by
      intro hx
      have hxm : x ∈ m.ros := by rw [hros]; rcases hx with hx | hx <;> simp [hx]
      refine ((h.own.objs.2.1 x hxm).fr hf ?_).ok (h.caps x hxm)
      intro g hg e
      have e' : g = b := e
      subst e'
      rw [List.nodup_append] at hnd
      have hn2 := hnd.2.1
      rw [hros] at hn2
      simp only [List.flatMap_append, List.flatMap_cons] at hn2
      rw [List.nodup_append] at hn2
      rcases hx with hx | hx
      · exact hn2.2.2 g (List.mem_flatMap.2 ⟨x, hx, hg⟩) g (List.mem_append_left _ hb) rfl
      · have := hn2.2.1
        rw [List.nodup_append] at this
        exact this.2.2 g hb g (List.mem_flatMap.2 ⟨x, hx, hg⟩) rfl
    rcases List.mem_append.1 hx with hx | hx
    · exact hold (.inl hx)
    · rcases List.mem_cons.1 hx with rfl | hx
      · exact hr'
      · exact hold (.inr hx)

/-- A number is put into a list of pointers. -/
theorem RM.Own.put_ptr {w w' : World} {B : Nat} {m : RM} (h : m.Own w B) {i : Nat} {r : RO} (hr : m.ros[i]? = some r) {b o c j : Nat} {v : Int} (hP : r.P = .slice (some ⟨b, o, none⟩) r.o.ptrs.length c) (hj : j < r.o.ptrs.length)
    (hp : PutAt w w' b (o + j) (.int .i64 v)) : RM.ok w' { m with ros := m.ros.set i { r with o := { r.o with ptrs := r.o.ptrs.set j v } } } := by
  have hrm := List.mem_of_getElem? hr
  have hb : b ∈ r.blocks := by simp [RO.blocks, hP, Value.ownBlock]
  refine h.put hr hb hp.1 rfl ?_
  have hw := h.own.objs.2.1 r hrm
  obtain ⟨A', c', h2, _⟩ := own_form hw.2
  have hN : r.own w B := hw
  have hbN : ∀ g, r.N.ownBlock = some g → ¬ Only b g := by
    intro g hg e
    have e' : g = b := e
    subst e'
    have hnd := h.own.objs.2.2
    rw [List.nodup_append] at hnd
    obtain ⟨l1, l2, hros, _⟩ := ros_split hr
    have hn2 := hnd.2.1
    rw [hros] at hn2
    simp only [List.flatMap_append, List.flatMap_cons] at hn2
    rw [List.nodup_append] at hn2
    have := hn2.2.1
    rw [List.nodup_append] at this
    have h3 := this.1
    simp only [RO.blocks] at h3
    rw [List.nodup_append] at h3
    exact h3.2.2 g (by simp [hP, Value.ownBlock]) g (by simp [hg]) rfl
  have hrow := (Row.of_own (hP ▸ hw.1)).put hp (by simpa using hj)
  have hnums := own_fr hw.2 hp.1 hbN
  refine ⟨some ⟨b, o, none⟩, c, A', c', ?_, h2, ?_, Row.of_own (h2 ▸ hnums), ?_, (h.caps r hrm).2⟩
  · simpa using hP
  · have e : intVals (r.o.ptrs.set j v) = (intVals r.o.ptrs).set j (.int .i64 v) := by simp [intVals, List.map_set]
    dsimp only
    rw [e, List.length_set]
    exact hrow
  · simpa using (h.caps r hrm).1
/-- A number is put into a list of numbers. -/
theorem RM.Own.put_num {w w' : World} {B : Nat} {m : RM} (h : m.Own w B) {i : Nat} {r : RO} (hr : m.ros[i]? = some r) {b o c j : Nat} {v : Int} (hP : r.N = .slice (some ⟨b, o, none⟩) r.o.nums.length c) (hj : j < r.o.nums.length)
    (hp : PutAt w w' b (o + j) (.int .i64 v)) : RM.ok w' { m with ros := m.ros.set i { r with o := { r.o with nums := r.o.nums.set j v } } } := by
  have hrm := List.mem_of_getElem? hr
  have hb : b ∈ r.blocks := by simp [RO.blocks, hP, Value.ownBlock]
  refine h.put hr hb hp.1 rfl ?_
  have hw := h.own.objs.2.1 r hrm
  obtain ⟨A', c', h2, _⟩ := own_form hw.1
  have hbN : ∀ g, r.P.ownBlock = some g → ¬ Only b g := by
    intro g hg e
    have e' : g = b := e
    subst e'
    have hnd := h.own.objs.2.2
    rw [List.nodup_append] at hnd
    obtain ⟨l1, l2, hros, _⟩ := ros_split hr
    have hn2 := hnd.2.1
    rw [hros] at hn2
    simp only [List.flatMap_append, List.flatMap_cons] at hn2
    rw [List.nodup_append] at hn2
    have := hn2.2.1
    rw [List.nodup_append] at this
    have h3 := this.1
    simp only [RO.blocks] at h3
    rw [List.nodup_append] at h3
    exact h3.2.2 g (by simp [hg]) g (by simp [hP, Value.ownBlock]) rfl
  have hrow := (Row.of_own (hP ▸ hw.2)).put hp (by simpa using hj)
  have hnums := own_fr hw.1 hp.1 hbN
  refine ⟨A', c', some ⟨b, o, none⟩, c, h2, ?_, Row.of_own (h2 ▸ hnums), ?_, (h.caps r hrm).1, ?_⟩
  · simpa using hP
  · have e : intVals (r.o.nums.set j v) = (intVals r.o.nums).set j (.int .i64 v) := by simp [intVals, List.map_set]
    dsimp only
    rw [e, List.length_set]
    exact hrow
  · simpa using (h.caps r hrm).2
/-- An object is freed. -/
theorem RM.Own.put_freed {w w' : World} {B : Nat} {m : RM} (h : m.Own w B) {i : Nat} {r : RO} (hr : m.ros[i]? = some r) {b o : Nat} (hA : m.A = some ⟨b, o, none⟩)
    (hp : PutAt w w' b (o + i * 8 + 7) (.bool true)) : RM.ok w' { m with ros := m.ros.set i { r with o := { r.o with freed := true } } } := by
  obtain ⟨A, c, Q, qc, ros, qs⟩ := m
  dsimp only at hA hr
  subst hA
  have hrow := Row.of_own h.own.objs.1
  dsimp only at hrow
  have hil : i < ros.length := (List.getElem?_eq_some_iff.1 hr).1
  rw [Nat.add_assoc] at hp
  have hrow' := hrow.put hp (by rw [rowOf_length]; omega)
  have hnd := h.own.objs.2.2
  rw [List.nodup_append] at hnd
  refine ⟨?_, ?_, ?_, by simpa using (by have := h.nobjs; dsimp only at this; omega : ros.length ≤ Cap), h.nq⟩
  · dsimp only
    rw [List.length_set]
    have e : rowOf (ros.set i { r with o := { r.o with freed := true } }) = (rowOf ros).set (i * 8 + 7) (.bool true) := rowOf_freed ros i r hr
    rw [e]
    exact hrow'
  · intro x hx
    dsimp only at hx
    have hold : ∀ y ∈ ros, y.ok w' := by
      intro y hy
      refine ((h.own.objs.2.1 y hy).fr hp.1 ?_).ok (h.caps y hy)
      intro g hg e
      have e' : g = b := e
      subst e'
      exact hnd.2.2 g (by simp [Value.ownBlock]) g (List.mem_flatMap.2 ⟨y, hy, hg⟩) rfl
    rcases List.mem_or_eq_of_mem_set hx with hx | rfl
    · exact hold x hx
    · exact hold r (List.mem_of_getElem? hr)
  · exact Row.of_own (own_fr h.own.queue hp.1 (fun g hg e => by
      have e' : g = b := e
      subst e'
      exact h.own.apart g (List.mem_append_left _ (by simp [Value.ownBlock])) hg))
end Go.Proofs.Ytbjknkgefpeohaa
