/- The pure laws of chapter 18's statements on writes, orders, frees and takes. Conditions: none. -/
import Derived.Test.YtbjknkgefpeohaaLaw18
import Derived.Test.YtbjknkgefpeohaaFindX
namespace Go.Proofs.Ytbjknkgefpeohaa

/-- A write, or a put. -/
def cntP (c : PDeed) (o : PObj) : Nat := if c.kind = 7 then o.nums.length else o.ptrs.length
def wrO (c : PDeed) (r : List Int) (o : PObj) : PObj := if c.kind = 7 then { o with nums := o.nums.set c.i.toNat c.n } else { o with ptrs := o.ptrs.set c.i.toNat (r.getD c.b.toNat 0) }
def wrX (c : PDeed) (r : List Int) : Int := r.getD c.a.toNat 0
def wrE (c : PDeed) (m : PModel) (r : List Int) : Int := match lookP m (wrX c r) with
  | none => 143
  | some o => if o.freed then 142 else if o.weak then 144 else if c.i ≥ cntP c o then 71 else 0
def wrM (c : PDeed) (m : PModel) (r : List Int) : PModel := if wrE c m r = 0 then ⟨m.objs.modify (wrX c r - 1).toNat (wrO c r), m.queue⟩ else m

theorem wrE_look {c : PDeed} {m : PModel} {r : List Int} (h : wrE c m r = 0) : ∃ o, lookP m (wrX c r) = some o ∧ o.freed = false ∧ o.weak = false ∧ c.i < cntP c o := by
  unfold wrE at h
  cases hl : lookP m (wrX c r) with
  | none => rw [hl] at h; simp at h
  | some o =>
    rw [hl] at h
    dsimp only at h
    by_cases hf : o.freed = true
    · rw [if_pos hf] at h; omega
    rw [if_neg hf] at h
    by_cases hw : o.weak = true
    · rw [if_pos hw] at h; omega
    rw [if_neg hw] at h
    by_cases hi : c.i ≥ cntP c o
    · rw [if_pos hi] at h; omega
    exact ⟨o, rfl, by simpa using hf, by simpa using hw, by omega⟩

theorem modify_set {l : List PObj} {i : Nat} {o : PObj} (f : PObj → PObj) (h : l[i]? = some o) : l.modify i f = l.set i (f o) := by
  apply List.ext_getElem?
  intro j
  rw [List.getElem?_modify, List.getElem?_set]
  by_cases hij : i = j
  · subst hij
    rw [if_pos rfl, if_pos (List.getElem?_eq_some_iff.1 h).1, h]
    simp
  · simp [hij]

theorem wr_do {c : PDeed} {m : PModel} (hg : Good m) (r : List Int) (f s : Int) (hr : rightP c = true) (hk : c.kind = 5 ∨ c.kind = 7) : doF c m r f s = (wrM c m r, r, 0, wrE c m r) := by
  unfold doF
  rw [if_pos hr]
  have key : ∀ (len : PObj → Nat) (k : Nat → PObj → PModel × List Int × Int), (∀ o, len o = cntP c o) → (∀ j o, k j o = (⟨m.objs.set j (wrO c r o), m.queue⟩, r, 0)) →
      (match fieldP m.objs (wrX c r) false c.i len k with
        | .inl c => (m, r, 0, c)
        | .inr o => (o.1, o.2.1, o.2.2, 0)) = (wrM c m r, r, (0 : Int), wrE c m r) := by
    intro len k h1 h2
    rw [hg.field]
    unfold wrM wrE
    cases hl : lookP m (wrX c r) with
    | none => simp
    | some o =>
      have h3 := (look_some hl).2.2
      by_cases hf : o.freed = true
      · simp [hf]
      · by_cases hw : o.weak = true
        · simp [hf, hw]
        · by_cases hi : c.i ≥ len o
          · have hi' : c.i ≥ cntP c o := by rw [← h1]; exact hi
            simp [hf, hw, hi, hi']
          · have hi' : ¬ c.i ≥ cntP c o := by rw [← h1]; exact hi
            rw [modify_set (wrO c r) h3]
            generalize (wrX c r - 1).toNat = x at *
            simp [hf, hw, hi, hi', h2]
  rcases hk with hk | hk
  · rw [deed_5 hk]
    exact key _ _ (fun o => by unfold cntP; rw [if_neg (by omega)]) (fun j o => by unfold wrO; rw [if_neg (by omega)])
  · rw [deed_7 hk]
    exact key _ _ (fun o => by unfold cntP; rw [if_pos hk]) (fun j o => by unfold wrO; rw [if_pos hk])

theorem look_modify (m : PModel) (i : Nat) (f : PObj → PObj) (q : List (Int × Int)) (v : Int) : lookP ⟨m.objs.modify i f, q⟩ v = (lookP m v).map fun o => if (v - 1).toNat = i then f o else o := by
  unfold lookP
  split
  · simp only [List.getElem?_modify]
    generalize (v - 1).toNat = x
    cases m.objs[x]? with
    | none => simp
    | some o =>
      by_cases h : x = i
      · simp [h]
      · have h' : ¬ i = x := fun e => h e.symm
        simp [h, h']
  · rfl
theorem cnt_wr (a b : PDeed) (r : List Int) (o : PObj) : cntP b (wrO a r o) = cntP b o := by
  unfold cntP wrO
  split <;> split <;> simp
theorem wrO_flags (a : PDeed) (r : List Int) (o : PObj) : (wrO a r o).freed = o.freed ∧ (wrO a r o).weak = o.weak ∧ (wrO a r o).serial = o.serial ∧ (wrO a r o).np = o.np ∧ (wrO a r o).nd = o.nd ∧ (wrO a r o).ptrs.length = o.ptrs.length ∧ (wrO a r o).nums.length = o.nums.length := by
  unfold wrO
  split <;> simp
theorem Good.modify {m : PModel} (h : Good m) (i : Nat) (f : PObj → PObj) (hf : ∀ o, (f o).serial = o.serial ∧ (f o).np = o.np ∧ (f o).nd = o.nd ∧ (f o).ptrs.length = o.ptrs.length ∧ (f o).nums.length = o.nums.length) : Good ⟨m.objs.modify i f, m.queue⟩ := by
  refine ⟨fun j o ho => ?_, fun o ho => ?_⟩
  · dsimp only at ho
    rw [List.getElem?_modify] at ho
    cases hm : m.objs[j]? with
    | none => rw [hm] at ho; cases ho
    | some o' =>
      rw [hm] at ho
      have := h.serial j o' hm
      have h2 := (hf o').1
      by_cases hij : i = j
      · simp [hij] at ho; rw [← ho]; omega
      · simp [hij] at ho; rw [← ho]; omega
  · obtain ⟨j, hj, rfl⟩ := List.getElem_of_mem ho
    simp only [List.length_modify] at hj
    have := h.shape _ (List.getElem_mem hj)
    simp only [List.getElem_modify]
    obtain ⟨_, h2, h3, h4, h5⟩ := hf m.objs[j]
    split
    · exact ⟨by rw [h2, h4]; exact this.1, by rw [h3, h5]; exact this.2⟩
    · exact this
theorem good_wr {m : PModel} (h : Good m) (c : PDeed) (r : List Int) : Good (wrM c m r) := by
  unfold wrM
  split
  · exact h.modify _ _ fun o => by obtain ⟨_, _, a, b, c, d, e⟩ := wrO_flags c r o; exact ⟨a, b, c, d, e⟩
  · exact h
theorem wrE_wr (a b : PDeed) (m : PModel) (r : List Int) : wrE b (wrM a m r) r = wrE b m r := by
  by_cases ha : wrE a m r = 0
  · unfold wrM
    rw [if_pos ha]
    unfold wrE
    rw [look_modify]
    cases hl : lookP m (wrX b r) with
    | none => rfl
    | some o =>
      generalize (wrX b r - 1).toNat = x
      generalize (wrX a r - 1).toNat = y
      by_cases hi : x = y
      · obtain ⟨h1, h2, _⟩ := wrO_flags a r o
        simp [hi, h1, h2, cnt_wr]
      · simp [hi]
  · unfold wrM
    rw [if_neg ha]

/-- The law of ModelOrder: writes that touch unlike objects, or unlike fields, may come in either order. -/
theorem order_law (a b : PDeed) (m : PModel) (r : List Int) (hka : a.kind = 5 ∨ a.kind = 7) (hkb : b.kind = 5 ∨ b.kind = 7) (hia : 0 ≤ a.i) (hib : 0 ≤ b.i) (h : ¬ (wrX a r = wrX b r ∧ a.kind = b.kind ∧ a.i = b.i)) : wrM b (wrM a m r) r = wrM a (wrM b m r) r := by
  by_cases ha : wrE a m r = 0
  · by_cases hb : wrE b m r = 0
    · have ha' : wrE a (wrM b m r) r = 0 := by rw [wrE_wr]; exact ha
      have hb' : wrE b (wrM a m r) r = 0 := by rw [wrE_wr]; exact hb
      have e1 : wrM a m r = ⟨m.objs.modify (wrX a r - 1).toNat (wrO a r), m.queue⟩ := by rw [wrM, if_pos ha]
      have e2 : wrM b m r = ⟨m.objs.modify (wrX b r - 1).toNat (wrO b r), m.queue⟩ := by rw [wrM, if_pos hb]
      rw [show wrM b (wrM a m r) r = ⟨(wrM a m r).objs.modify (wrX b r - 1).toNat (wrO b r), (wrM a m r).queue⟩ from by conv => lhs; rw [wrM, if_pos hb'],
        show wrM a (wrM b m r) r = ⟨(wrM b m r).objs.modify (wrX a r - 1).toNat (wrO a r), (wrM b m r).queue⟩ from by conv => lhs; rw [wrM, if_pos ha'], e1, e2]
      dsimp only
      congr 1
      by_cases hx : wrX a r = wrX b r
      · rw [hx, List.modify_modify_eq, List.modify_modify_eq]
        congr 1
        funext o
        simp only [Function.comp]
        unfold wrO
        rcases hka with ka | ka <;> rcases hkb with kb | kb <;> simp only [ka, kb]
        · have hi : a.i.toNat ≠ b.i.toNat := fun e => h ⟨hx, by omega, by omega⟩
          simp [List.set_comm _ _ hi]
        · simp
        · simp
        · have hi : a.i.toNat ≠ b.i.toNat := fun e => h ⟨hx, by omega, by omega⟩
          simp [List.set_comm _ _ hi]
      · obtain ⟨oa, hla, _⟩ := wrE_look ha
        obtain ⟨ob, hlb, _⟩ := wrE_look hb
        have h1 := (look_some hla).1
        have h2 := (look_some hlb).1
        exact List.modify_modify_ne _ _ _ (by omega)
    · have hb' : ¬ wrE b (wrM a m r) r = 0 := by rw [wrE_wr]; exact hb
      rw [show wrM b (wrM a m r) r = wrM a m r from by conv => lhs; rw [wrM, if_neg hb'], show wrM b m r = m from by rw [wrM, if_neg hb]]
  · have ha' : ¬ wrE a (wrM b m r) r = 0 := by rw [wrE_wr]; exact ha
    rw [show wrM a (wrM b m r) r = wrM b m r from by conv => lhs; rw [wrM, if_neg ha'], show wrM a m r = m from by rw [wrM, if_neg ha]]

theorem fit_small (raw : List PObj) (items : List (Int × Int)) : ∀ o ∈ (fitM raw items).objs, o.ptrs.length ≤ 4 ∧ o.nums.length ≤ 4 := by
  intro o ho
  simp only [fitM] at ho
  obtain ⟨i, hi, rfl⟩ := List.mem_mapIdx.1 ho
  unfold fitO
  split
  · simp
  · simp only [List.length_map, List.length_take]; omega

theorem mem_look {m : PModel} {v : Int} {o : PObj} (h : lookP m v = some o) : o ∈ m.objs := List.mem_of_getElem? (look_some h).2.2

/-- What Do tells, and what refuses it. -/
def resP (o : Out) : Int × Int := match o with
  | .inl c => (0, c)
  | .inr o => (o.2.2, 0)
theorem do_res {c : PDeed} (hr : rightP c = true) (m : PModel) (r : List Int) (f s : Int) : (doF c m r f s).2.2 = resP (deedP c m r f s) := by
  unfold doF resP
  rw [if_pos hr]
  cases deedP c m r f s <;> rfl

theorem right_read {j : Int} (h0 : 0 ≤ j) (h1 : j ≤ 7) : rightP ⟨6, 0, 0, j, 0⟩ = true := by
  simp [rightP, partsOf, wordOf, onlyOf, PDeed.set, PDeed.get, pA, pI, PPart.fits]; omega
theorem right_write {k v : Int} (h0 : 0 ≤ k) (h1 : k ≤ 7) (h2 : -1000000 ≤ v) (h3 : v ≤ 1000000) : rightP ⟨7, 0, 0, k, v⟩ = true := by
  simp [rightP, partsOf, wordOf, onlyOf, PDeed.set, PDeed.get, pA, pI, pN, PPart.fits]; omega
theorem right_put {k : Int} (h0 : 0 ≤ k) (h1 : k ≤ 7) : rightP ⟨5, 0, 1, k, 0⟩ = true := by
  simp [rightP, partsOf, wordOf, onlyOf, PDeed.set, PDeed.get, pA, pB, pI, PPart.fits]; omega
theorem right_get {k : Int} (h0 : 0 ≤ k) (h1 : k ≤ 7) : rightP ⟨4, 5, 0, k, 0⟩ = true := by
  simp [rightP, partsOf, wordOf, onlyOf, PDeed.set, PDeed.get, pA, pB, pI, PPart.fits]; omega

/-- What was written is read. -/
theorem read_law {m : PModel} (hg : Good m) {r : List Int} {k v : Int} {o : PObj} (hk : 0 ≤ k) (hl : lookP m (r.getD 0 0) = some o) (he : wrE ⟨7, 0, 0, k, v⟩ m r = 0) (j : Nat) (hj : j < o.nums.length) (h7 : j ≤ 7) :
    doF ⟨6, 0, 0, j, 0⟩ (wrM ⟨7, 0, 0, k, v⟩ m r) r 0 0 = (wrM ⟨7, 0, 0, k, v⟩ m r, r, if (j : Int) = k then v else o.nums.getD j 0, 0) := by
  obtain ⟨o', hl', hf, hw, hi⟩ := wrE_look he
  have hx : wrX ⟨7, 0, 0, k, v⟩ r = r.getD 0 0 := rfl
  rw [hx, hl] at hl'
  injection hl' with hl'
  subst hl'
  have hgw := good_wr hg ⟨7, 0, 0, k, v⟩ r
  unfold doF
  rw [if_pos (right_read (by omega) (by omega)), deed_6 rfl]
  dsimp only
  rw [hgw.field]
  have hlw : lookP (wrM ⟨7, 0, 0, k, v⟩ m r) (r.getD 0 0) = some (wrO ⟨7, 0, 0, k, v⟩ r o) := by
    unfold wrM
    rw [if_pos he, look_modify, hl, hx]
    simp
  have h0 : r.getD (0 : Int).toNat 0 = r.getD 0 0 := rfl
  rw [h0, hlw]
  obtain ⟨w1, w2, _, _, _, _, w7⟩ := wrO_flags ⟨7, 0, 0, k, v⟩ r o
  simp only [w1, w2, w7, hf, hw, Bool.false_eq_true, if_false, ne_eq, not_true_eq_false]
  rw [if_neg (by omega)]
  dsimp only
  have hn : (wrO ⟨7, 0, 0, k, v⟩ r o).nums = o.nums.set k.toNat v := by simp [wrO]
  have hc : cntP ⟨7, 0, 0, k, v⟩ o = o.nums.length := by simp [cntP]
  rw [hc] at hi
  dsimp only at hi
  have hkl : k.toNat < o.nums.length := by omega
  rw [hn]
  congr 3
  have e : ((j : Int)).toNat = j := by omega
  rw [e]
  simp only [List.getD_eq_getElem?_getD]
  by_cases hjk : (j : Int) = k
  · have hkj : k.toNat = j := by omega
    rw [if_pos hjk, hkj, List.getElem?_set_self hj]
    rfl
  · rw [if_neg hjk, List.getElem?_set_ne (by omega)]

/-- What was put is got. -/
theorem get_law {m : PModel} (hg : Good m) {r : List Int} {k : Int} (hk : 0 ≤ k) (h7 : k ≤ 7) (he : wrE ⟨5, 0, 1, k, 0⟩ m r = 0) :
    doF ⟨4, 5, 0, k, 0⟩ (wrM ⟨5, 0, 1, k, 0⟩ m r) r 0 0 = (wrM ⟨5, 0, 1, k, 0⟩ m r, r.set 5 (r.getD 1 0), r.getD 1 0, 0) := by
  obtain ⟨o, hl, hf, hw, hi⟩ := wrE_look he
  have hx : wrX ⟨5, 0, 1, k, 0⟩ r = r.getD 0 0 := rfl
  have hgw := good_wr hg ⟨5, 0, 1, k, 0⟩ r
  unfold doF
  rw [if_pos (right_get (by omega) (by omega)), deed_4 rfl]
  dsimp only
  rw [hgw.field]
  have hlw : lookP (wrM ⟨5, 0, 1, k, 0⟩ m r) (r.getD 0 0) = some (wrO ⟨5, 0, 1, k, 0⟩ r o) := by
    unfold wrM
    rw [if_pos he, look_modify, ← hx, hl]
    simp
  have h0 : r.getD (0 : Int).toNat 0 = r.getD 0 0 := rfl
  rw [h0, hlw]
  obtain ⟨w1, w2, _, _, _, w6, _⟩ := wrO_flags ⟨5, 0, 1, k, 0⟩ r o
  have hc : cntP ⟨5, 0, 1, k, 0⟩ o = o.ptrs.length := by simp [cntP]
  rw [hc] at hi
  dsimp only at hi
  simp only [w1, w2, w6, hf, hw, Bool.false_eq_true, if_false, ne_eq, not_true_eq_false]
  rw [if_neg (by omega)]
  dsimp only
  have hn : (wrO ⟨5, 0, 1, k, 0⟩ r o).ptrs = o.ptrs.set k.toNat (r.getD 1 0) := by simp [wrO]
  have hkl : k.toNat < o.ptrs.length := by omega
  have hv : (o.ptrs.set k.toNat (r.getD 1 0)).getD k.toNat 0 = r.getD 1 0 := by
    rw [List.getD_eq_getElem?_getD, List.getElem?_set_self hkl]
    rfl
  rw [hn, hv]
  rfl

/-- What is freed. -/
def frM (m : PModel) (x : Int) : PModel := ⟨m.objs.modify (x - 1).toNat (fun o => { o with freed := true }), m.queue⟩
theorem good_fr {m : PModel} (h : Good m) (x : Int) : Good (frM m x) := h.modify _ _ fun _ => ⟨rfl, rfl, rfl, rfl, rfl⟩
theorem fr_do {m : PModel} (hg : Good m) (r : List Int) (f s : Int) : doF ⟨8, 0, 0, 0, 0⟩ m r f s = match lookP m (r.getD 0 0) with
    | none => (m, r, 0, 143)
    | some o => if o.freed then (m, r, 0, 142) else (frM m (r.getD 0 0), r, 0, 0) := by
  unfold doF
  rw [if_pos (by decide), deed_8 rfl, hg.free]
  dsimp only
  have h0 : r.getD (0 : Int).toNat 0 = r.getD 0 0 := rfl
  rw [h0]
  cases hl : lookP m (r.getD 0 0) with
  | none => rfl
  | some o =>
    have h3 := (look_some hl).2.2
    by_cases hf : o.freed = true
    · simp [hf]
    · simp only [hf, Bool.false_eq_true, if_false]
      unfold frM
      rw [modify_set (fun o => { o with freed := true }) h3]
theorem fr_field {m : PModel} (hg : Good m) {y : Int} {o : PObj} (hl : lookP m y = some o) (x : Int) (weak : Bool) (i : Int) (len : PObj → Nat) (k k' : Nat → PObj → PModel × List Int × Int) (hk : ∀ j o, (k' j o).2.2 = (k j o).2.2) :
    resP (fieldP (frM m y).objs x weak i len k') = if x = y then (0, 142) else resP (fieldP m.objs x weak i len k) := by
  rw [(good_fr hg y).field, hg.field]
  unfold frM
  rw [look_modify]
  by_cases hxy : x = y
  · subst hxy
    rw [if_pos rfl, hl]
    simp [resP]
  · rw [if_neg hxy]
    cases hx : lookP m x with
    | none => rfl
    | some p =>
      have h1 := (look_some hx).1
      have h2 := (look_some hl).1
      have hne : ¬ (x - 1).toNat = (y - 1).toNat := by omega
      simp only [Option.map_some, if_neg hne]
      split
      · rfl
      · split
        · rfl
        · split
          · rfl
          · simp only [resP, hk]
theorem fr_free {m : PModel} (hg : Good m) {y : Int} {o : PObj} (hl : lookP m y = some o) (x : Int) (r : List Int) :
    resP (freeP (frM m y) r x) = if x = y then (0, 142) else resP (freeP m r x) := by
  rw [(good_fr hg y).free, hg.free]
  have e : lookP (frM m y) x = (lookP m x).map fun o => if (x - 1).toNat = (y - 1).toNat then { o with freed := true } else o := look_modify _ _ _ _ _
  rw [e]
  by_cases hxy : x = y
  · subst hxy
    rw [if_pos rfl, hl]
    simp [resP]
  · rw [if_neg hxy]
    cases hx : lookP m x with
    | none => rfl
    | some p =>
      have h1 := (look_some hx).1
      have h2 := (look_some hl).1
      have hne : ¬ (x - 1).toNat = (y - 1).toNat := by omega
      simp only [Option.map_some, if_neg hne]
      split
      · rfl
      · rfl
/-- The register that a deed looks at. -/
def atP (c : PDeed) : Int := if c.kind = 4 ∨ c.kind = 9 then c.b else c.a
/-- The law of ModelFreed. -/
theorem freed_law {m : PModel} (hg : Good m) {c : PDeed} (hr : rightP c = true) (hk : 4 ≤ c.kind ∧ c.kind ≤ 9) {y : Int} {o : PObj} (hl : lookP m y = some o) (r : List Int) (f s : Int) :
    (doF c (frM m y) r f s).2.2 = if r.getD (atP c).toNat 0 = y then (0, 142) else (doF c m r f s).2.2 := by
  rw [do_res hr, do_res hr]
  have h6 : c.kind = 4 ∨ c.kind = 5 ∨ c.kind = 6 ∨ c.kind = 7 ∨ c.kind = 8 ∨ c.kind = 9 := by omega
  rcases h6 with h | h | h | h | h | h
  · rw [deed_4 h, deed_4 h, show atP c = c.b from if_pos (by omega)]
    exact fr_field hg hl _ _ _ _ _ _ (fun _ _ => rfl)
  · rw [deed_5 h, deed_5 h, show atP c = c.a from if_neg (by omega)]
    exact fr_field hg hl _ _ _ _ _ _ (fun _ _ => rfl)
  · rw [deed_6 h, deed_6 h, show atP c = c.a from if_neg (by omega)]
    exact fr_field hg hl _ _ _ _ _ _ (fun _ _ => rfl)
  · rw [deed_7 h, deed_7 h, show atP c = c.a from if_neg (by omega)]
    exact fr_field hg hl _ _ _ _ _ _ (fun _ _ => rfl)
  · rw [deed_8 h, deed_8 h, show atP c = c.a from if_neg (by omega)]
    exact fr_free hg hl _ _
  · rw [deed_9 h, deed_9 h, show atP c = c.b from if_pos (by omega)]
    exact fr_field hg hl _ _ _ _ _ _ (fun _ _ => rfl)

/-- The queue of ModelTakes, and where it stands in round i. -/
def tkQ (xs : List Int) : List (Int × Int) := xs.mapIdx fun i x => (1 + pickZ x 99, (i : Int))
def tkAt (n : Nat) (k : Int) (i : Nat) : Nat := min i (min n k.toNat)
def tkV (xs : List Int) (k : Int) (i : Nat) : Int := if i < xs.length ∧ (i : Int) < k then 1 + pickZ (xs.getD i 0) 99 else 0
theorem takes_law (xs : List Int) (k : Int) (hk : 0 ≤ k) (i : Nat) : doF ⟨10, 2, 0, 0, 0⟩ ⟨[], (tkQ xs).drop (tkAt xs.length k i)⟩ [9, 9, 9, 9, 9, 9] 0 k =
    (⟨[], (tkQ xs).drop (tkAt xs.length k (i + 1))⟩, [9, 9, tkV xs k i, 9, 9, 9], tkV xs k i, 0) := by
  unfold doF
  rw [if_pos (by decide), deed_10 rfl]
  have hQ : (tkQ xs).length = xs.length := by simp [tkQ]
  unfold takeP
  dsimp only
  by_cases hi : i < xs.length ∧ (i : Int) < k
  · have e1 : tkAt xs.length k i = i := by unfold tkAt; omega
    have e2 : tkAt xs.length k (i + 1) = i + 1 := by unfold tkAt; omega
    rw [e1, e2, List.drop_eq_getElem_cons (by omega)]
    have hg : (tkQ xs)[i]'(by omega) = (1 + pickZ (xs.getD i 0) 99, (i : Int)) := by simp [tkQ, hi.1]
    rw [hg]
    have hv : tkV xs k i = 1 + pickZ (xs.getD i 0) 99 := by unfold tkV; rw [if_pos hi]
    rw [hv]
    dsimp only
    rw [if_neg (by omega)]
    rfl
  · have hv : tkV xs k i = 0 := by unfold tkV; rw [if_neg hi]
    have e2 : tkAt xs.length k (i + 1) = tkAt xs.length k i := by unfold tkAt; omega
    rw [hv, e2]
    cases hd : (tkQ xs).drop (tkAt xs.length k i) with
    | nil => rfl
    | cons q qs =>
      have hl : tkAt xs.length k i < (tkQ xs).length := by
        have := congrArg List.length hd
        simp at this
        omega
      rw [List.drop_eq_getElem_cons hl] at hd
      injection hd with h1 h2
      have hq : q.2 = (tkAt xs.length k i : Nat) := by rw [← h1]; simp [tkQ]
      have hge : q.2 ≥ k := by rw [hq]; unfold tkAt at hl ⊢; rw [hQ] at hl; omega
      dsimp only
      rw [if_pos hge]
      rfl
theorem takes_end (xs : List Int) (k : Int) (hk : 0 ≤ k) : (((tkQ xs).drop (tkAt xs.length k (xs.length + 2))).length : Int) = max ((xs.length : Int) - k) 0 := by
  have hQ : (tkQ xs).length = xs.length := by simp [tkQ]
  rw [List.length_drop, hQ]
  unfold tkAt
  omega
theorem tkQ_snoc (xs : List Int) (x : Int) : tkQ (xs ++ [x]) = tkQ xs ++ [(1 + pickZ x 99, (xs.length : Int))] := by simp [tkQ]

theorem look_idxZ {m : RM} (hg : Good m.pure) (s : Int) : idxZ (m.ros.map (·.o.serial)) s = match lookP m.pure s with | none => -1 | some _ => ((s - 1).toNat : Int) := by
  have h2 : (m.ros.map RO.o).findIdx? (fun o => o.serial == s) = (lookP m.pure s).map fun _ => (s - 1).toNat := hg.look_idx s
  rw [idxZ_map, h2]
  cases lookP m.pure s <;> rfl
/-- Find of a model that Fit made. -/
def FoundG (m : RM) (s : Int) (w : World) (e : Ending) (w' : World) : Prop := Fr No w w' ∧
  ((lookP m.pure s = none ∧ e = .returned (.tuple #[.agg zeroRO.cells.toArray, .bool false])) ∨
   (∃ r' : RO, lookP m.pure s = some r'.o ∧ r'.ok w' ∧ e = .returned (.tuple #[.agg r'.cells.toArray, .bool true])))
theorem found_look {m : RM} (hg : Good m.pure) {s : Int} {w w' : World} {e : Ending} (h : Found m s w e w') : FoundG m s w e w' := by
  obtain ⟨hf, h⟩ := h
  refine ⟨hf, ?_⟩
  rw [look_idxZ hg] at h
  rcases h with ⟨h1, h2⟩ | ⟨i, r, r', h1, h2, h3, h4, h5⟩
  · refine .inl ⟨?_, h2⟩
    cases hl : lookP m.pure s with
    | none => rfl
    | some o => rw [hl] at h1; have h1' : ((s - 1).toNat : Int) = -1 := h1; omega
  · refine .inr ⟨r', ?_, h4, h5⟩
    cases hl : lookP m.pure s with
    | none => rw [hl] at h1; have h1' : (-1 : Int) = (i : Nat) := h1; omega
    | some o =>
      rw [hl] at h1
      have h1' : ((s - 1).toNat : Int) = (i : Nat) := h1
      have hi : (s - 1).toNat = i := by omega
      have h6 := (look_some hl).2.2
      rw [hi] at h6
      simp only [RM.pure, List.getElem?_map, h2, Option.map_some] at h6
      injection h6 with h6
      rw [h3, h6]
end Go.Proofs.Ytbjknkgefpeohaa
