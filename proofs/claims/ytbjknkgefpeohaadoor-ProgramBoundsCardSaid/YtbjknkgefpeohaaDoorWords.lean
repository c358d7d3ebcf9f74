/- Plain functions with no program in sight: a deed's text, its words, the deed of a text; the one undoes the other. Conditions: none. -/
import Derived.Test.YtbjknkgefpeohaaDoorPure
import Derived.Lib.Join
import Derived.Lib.SplitLaws
import Derived.Lib.AtoiAllCases
import Derived.Lib.ItoaNum
namespace Go.Proofs.YtbjknkgefpeohaaDoor

/-- The words of a deed's text. -/
def wordsP (d : PDeed) : List (List UInt8) := wordOf d.kind :: (partsOf d.kind).map (fun p => Lib.itoa (d.get p.k))
/-- A deed's text. -/
def textOf (d : PDeed) : List UInt8 := Lib.join (wordsP d) [32]
def printP (d : PDeed) : List UInt8 := if rightP d then textOf d else []
/-- The words of a text. -/
def wordsOf (l : List UInt8) : List (List UInt8) := Lib.split l [32]
/-- The number that Atoi hands back, error or none. -/
def atoiVal (l : List UInt8) : Int := match Lib.atoiAll l with | .ok v => v | .range => Lib.atoiSat l | _ => 0
/-- A deed with its parts out of words, from the i-th on. -/
def fillP (ws : List (List UInt8)) : Nat → List PPart → PDeed → PDeed
  | _, [], x => x
  | i, p :: r, x => fillP ws (i + 1) r (x.set p.k (atoiVal (ws.getD i [])))
def candP (ws : List (List UInt8)) (k : Int) : PDeed := fillP ws 1 (partsOf k) ⟨k, 0, 0, 0, 0⟩
def tryP (l : List UInt8) (ws : List (List UInt8)) (k : Int) : Option PDeed :=
  if (wordOf k = ws.headD [] ∧ ws.length = 1 + (partsOf k).length) ∧ rightP (candP ws k) = true ∧ textOf (candP ws k) = l then some (candP ws k) else none
def parseK (l : List UInt8) (ws : List (List UInt8)) : Nat → Int → Option PDeed
  | 0, _ => none
  | n + 1, k => match tryP l ws k with | some x => some x | none => parseK l ws n (k + 1)
/-- The deed of a text; none: it is none. -/
def parseP (l : List UInt8) : Option PDeed := parseK l (wordsOf l) 14 1
def parseD (l : List UInt8) : PDeed := (parseP l).getD ⟨0, 0, 0, 0, 0⟩
def parseE (l : List UInt8) : Int := if (parseP l).isSome then 0 else 151

theorem parseK_none {l : List UInt8} {ws : List (List UInt8)} {j : Nat} (hj : j < 14) (h : tryP l ws (1 + (j : Int)) = none) : parseK l ws (14 - j) (1 + (j : Int)) = parseK l ws (14 - (j + 1)) (1 + ((j + 1 : Nat) : Int)) := by
  have e : 14 - j = (14 - (j + 1)) + 1 := by omega
  have e2 : 1 + (j : Int) + 1 = 1 + ((j + 1 : Nat) : Int) := by omega
  rw [e, parseK, h]
  simp only [e2]
theorem parseK_some {l : List UInt8} {ws : List (List UInt8)} {j : Nat} {x : PDeed} (hj : j < 14) (h : tryP l ws (1 + (j : Int)) = some x) : parseK l ws (14 - j) (1 + (j : Int)) = some x := by
  have e : 14 - j = (14 - (j + 1)) + 1 := by omega
  rw [e, parseK, h]
theorem tryP_word {l : List UInt8} {ws : List (List UInt8)} {k : Int} (h : wordOf k ≠ ws.headD []) : tryP l ws k = none := by
  unfold tryP
  rw [if_neg (fun hh => h hh.1.1)]
theorem tryP_len {l : List UInt8} {ws : List (List UInt8)} {k : Int} (h : ws.length ≠ 1 + (partsOf k).length) : tryP l ws k = none := by
  unfold tryP
  rw [if_neg (fun hh => h hh.1.2)]
theorem tryP_right {l : List UInt8} {ws : List (List UInt8)} {k : Int} (h : rightP (candP ws k) = false) : tryP l ws k = none := by
  unfold tryP
  rw [if_neg (fun hh => by rw [h] at hh; exact absurd hh.2.1 (by decide))]
theorem tryP_text {l : List UInt8} {ws : List (List UInt8)} {k : Int} (h : textOf (candP ws k) ≠ l) : tryP l ws k = none := by
  unfold tryP
  rw [if_neg (fun hh => h hh.2.2)]
theorem tryP_some {l : List UInt8} {ws : List (List UInt8)} {k : Int} {x : PDeed} (hx : candP ws k = x) (h1 : wordOf k = ws.headD []) (h2 : ws.length = 1 + (partsOf k).length) (h3 : rightP x = true) (h4 : textOf x = l) : tryP l ws k = some x := by
  unfold tryP
  rw [hx, if_pos ⟨⟨h1, h2⟩, h3, h4⟩]
theorem tryP_inv {l : List UInt8} {ws : List (List UInt8)} {k : Int} {x : PDeed} (h : tryP l ws k = some x) : rightP x = true ∧ textOf x = l := by
  unfold tryP at h
  by_cases hc : (wordOf k = ws.headD [] ∧ ws.length = 1 + (partsOf k).length) ∧ rightP (candP ws k) = true ∧ textOf (candP ws k) = l
  · rw [if_pos hc] at h
    injection h with h
    subst h
    exact hc.2
  · rw [if_neg hc] at h
    cases h
theorem parseK_inv {l : List UInt8} {ws : List (List UInt8)} {x : PDeed} : ∀ (n : Nat) (k : Int), parseK l ws n k = some x → rightP x = true ∧ textOf x = l
  | 0, _, h => by cases h
  | n + 1, k, h => by
    rw [parseK] at h
    cases ht : tryP l ws k with
    | some y => rw [ht] at h; injection h with h; subst h; exact tryP_inv ht
    | none => rw [ht] at h; exact parseK_inv n _ h
/-- What was parsed is right, and its text is what was parsed. -/
theorem parseP_inv {l : List UInt8} {x : PDeed} (h : parseP l = some x) : rightP x = true ∧ textOf x = l := parseK_inv 14 1 h

/-! ## Kinds -/
def kindsL : List Int := [1, 2, 3, 4, 5, 6, 7, 8, 9, 10, 11, 12, 13, 14]
theorem kind_mem {k : Int} (h : wordOf k ≠ []) : k ∈ kindsL := by
  refine Classical.byContradiction fun hn => h ?_
  simp only [kindsL, List.mem_cons, List.not_mem_nil, or_false, not_or] at hn
  obtain ⟨a1, a2, a3, a4, a5, a6, a7, a8, a9, a10, a11, a12, a13, a14⟩ := hn
  unfold wordOf
  rw [if_neg a1, if_neg a2, if_neg a3, if_neg a4, if_neg a5, if_neg a6, if_neg a7, if_neg a8, if_neg a9, if_neg a10, if_neg a11, if_neg a12, if_neg a13, if_neg a14]
theorem word_inj : ∀ a ∈ kindsL, ∀ b ∈ kindsL, wordOf a = wordOf b → a = b := by decide
theorem word_prefix : ∀ a ∈ kindsL, ∀ b ∈ kindsL, ∀ k ∈ List.range 5, k < (wordOf a).length → (wordOf a).take k ≠ wordOf b := by decide
theorem word_blank : ∀ a ∈ kindsL, (32 : UInt8) ∉ wordOf a := by decide
theorem word_len5 : ∀ a ∈ kindsL, (wordOf a).length ≤ 5 ∧ 0 < (wordOf a).length := by decide
theorem kind_bd : ∀ a ∈ kindsL, 1 ≤ a ∧ a ≤ 14 := by decide
theorem right_kind {d : PDeed} (h : rightP d = true) : d.kind ∈ kindsL := by
  unfold rightP at h
  simp only [Bool.and_eq_true, decide_eq_true_eq] at h
  exact kind_mem h.2.1
theorem right_only {d : PDeed} (h : rightP d = true) : onlyOf d (partsOf d.kind) = d := by
  unfold rightP at h
  simp only [Bool.and_eq_true, decide_eq_true_eq] at h
  exact h.2.2
theorem right_fits {d : PDeed} (h : rightP d = true) : ∀ p ∈ partsOf d.kind, p.fits d := by
  unfold rightP at h
  rw [Bool.and_eq_true] at h
  intro p hp
  simpa using List.all_eq_true.1 h.1 p hp
theorem parts_bd (k : Int) : ∀ p ∈ partsOf k, -1000000 ≤ p.lo ∧ p.hi ≤ 1000000 := by
  intro p hp
  unfold partsOf at hp
  iterate 13 (have hq := mem_ite_or hp; clear hp; rcases hq with hp | hp; (· revert p; decide))
  cases hp

/-! ## Numbers -/
theorem decDigits_digit (u : Nat) : ∀ c ∈ Lib.decDigits u, 48 ≤ c.toNat ∧ c.toNat ≤ 57 := by
  induction u using Nat.strongRecOn with
  | _ u ih =>
    intro c hc
    rw [Lib.decDigits] at hc
    by_cases h : u < 10
    · rw [dif_pos h] at hc
      simp only [List.mem_singleton] at hc
      subst hc
      rw [UInt8.toNat_ofNat']
      omega
    · rw [dif_neg h, List.mem_append] at hc
      rcases hc with hc | hc
      · exact ih (u / 10) (by omega) c hc
      · simp only [List.mem_singleton] at hc
        subst hc
        rw [UInt8.toNat_ofNat']
        omega
theorem decDigits_ne (u : Nat) : Lib.decDigits u ≠ [] := by
  rw [Lib.decDigits]
  by_cases h : u < 10
  · rw [dif_pos h]; simp
  · rw [dif_neg h]; simp
theorem parse_dec (u : Nat) : ∀ r : List UInt8, u < 1000000000000000000 → Lib.parseUint10 0 (Lib.decDigits u ++ r) = Lib.parseUint10 u r := by
  induction u using Nat.strongRecOn with
  | _ u ih =>
    intro r hu
    rw [Lib.decDigits]
    by_cases h : u < 10
    · rw [dif_pos h]
      simp only [List.singleton_append, Lib.parseUint10]
      have e : (UInt8.ofNat (48 + u)).toNat = 48 + u := by rw [UInt8.toNat_ofNat']; omega
      rw [e, if_pos (by omega), if_neg (by omega), if_neg (by omega)]
      congr 1
      omega
    · rw [dif_neg h, List.append_assoc, ih (u / 10) (by omega) _ (by omega)]
      simp only [List.singleton_append, Lib.parseUint10]
      have e : (UInt8.ofNat (48 + u % 10)).toNat = 48 + u % 10 := by rw [UInt8.toNat_ofNat']; omega
      rw [e, if_pos (by omega), if_neg (by omega), if_neg (by omega)]
      congr 1
      omega
theorem parseMag_dec (u : Nat) (h : u < 1000000000000000000) : Lib.parseMag (Lib.decDigits u) = .ok u := by
  unfold Lib.parseMag
  rw [if_neg (decDigits_ne u)]
  have := parse_dec u [] h
  rw [List.append_nil] at this
  rw [this]
  rfl
theorem atoi_itoa (n : Int) (h0 : -1000000000 ≤ n) (h1 : n ≤ 1000000000) : atoiVal (Lib.itoa n) = n := by
  unfold Lib.itoa
  by_cases h : n < 0
  · rw [if_pos h]
    unfold atoiVal
    rw [Lib.atoiAll_minus, parseMag_dec _ (by omega)]
    simp only [Lib.signed]
    rw [if_neg (by omega)]
    show -((n.natAbs : Nat) : Int) = n
    omega
  · rw [if_neg h]
    cases hd : Lib.decDigits n.toNat with
    | nil => exact absurd hd (decDigits_ne _)
    | cons c r =>
      have hc := decDigits_digit n.toNat c (by rw [hd]; exact List.mem_cons_self ..)
      unfold atoiVal
      rw [Lib.atoiAll_plain c r (by omega) (by omega), ← hd, parseMag_dec _ (by omega)]
      simp only [Lib.signless]
      rw [if_neg (by omega)]
      show ((n.toNat : Nat) : Int) = n
      omega
theorem itoa_blank (n : Int) : (32 : UInt8) ∉ Lib.itoa n := by
  unfold Lib.itoa
  intro h
  by_cases hn : n < 0
  · rw [if_pos hn] at h
    rcases List.mem_cons.1 h with h | h
    · exact absurd h (by decide)
    · have := decDigits_digit _ _ h
      simp at this
  · rw [if_neg hn] at h
    have := decDigits_digit _ _ h
    simp at this

/-! ## Words -/
theorem index_here (x t : List UInt8) (h : (32 : UInt8) ∉ x) : Lib.index (x ++ 32 :: t) [32] = x.length := by
  induction x with
  | nil => rw [List.nil_append, Lib.index]; simp [List.isPrefixOf]
  | cons b x ih =>
    have hb : (32 : UInt8) ≠ b := fun e => h (by rw [e]; exact List.mem_cons_self ..)
    have ih' := ih (fun hm => h (List.mem_cons_of_mem _ hm))
    rw [List.cons_append, Lib.index]
    have hp : ([32] : List UInt8).isPrefixOf (b :: (x ++ 32 :: t)) = false := by simp [List.isPrefixOf, hb]
    rw [hp, ih']
    have hl : ((x.length : Int) == -1) = false := by rw [beq_eq_false_iff_ne]; omega
    simp [hl]
theorem index_miss (x : List UInt8) (h : (32 : UInt8) ∉ x) : Lib.index x [32] = -1 := by
  induction x with
  | nil => simp [Lib.index]
  | cons b x ih =>
    have hb : (32 : UInt8) ≠ b := fun e => h (by rw [e]; exact List.mem_cons_self ..)
    have ih' := ih (fun hm => h (List.mem_cons_of_mem _ hm))
    rw [Lib.index]
    have hp : ([32] : List UInt8).isPrefixOf (b :: x) = false := by simp [List.isPrefixOf, hb]
    rw [hp, ih']
    simp
theorem wordsOf_one (x : List UInt8) (h : (32 : UInt8) ∉ x) : wordsOf x = [x] := by
  unfold wordsOf Lib.split
  rw [Lib.count_one, List.count_eq_zero.2 h]
  rfl
theorem wordsOf_cons (x t : List UInt8) (h : (32 : UInt8) ∉ x) : wordsOf (x ++ 32 :: t) = x :: wordsOf t := by
  unfold wordsOf Lib.split
  have hc : Lib.count (x ++ 32 :: t) [32] = Lib.count t [32] + 1 := by
    rw [Lib.count_one, Lib.count_one, List.count_append, List.count_eq_zero.2 h, List.count_cons_self]
    omega
  rw [hc, Lib.splitK, index_here x t h]
  have hl : ((x.length : Int) == -1) = false := by rw [beq_eq_false_iff_ne]; omega
  rw [hl]
  simp
theorem wordsOf_length (l : List UInt8) : (wordsOf l).length = l.count 32 + 1 := by
  unfold wordsOf Lib.split
  rw [Lib.count_one]
  have : ∀ (k : Nat) (l : List UInt8), l.count 32 = k → (Lib.splitK [32] 0 k l).length = k + 1 := by
    intro k
    induction k with
    | zero => intro l _; rfl
    | succ k ih =>
      intro l hl
      have hm : (32 : UInt8) ∈ l := List.count_pos_iff.1 (by omega)
      obtain ⟨x, t, rfl, hx⟩ := List.eq_append_cons_of_mem hm
      rw [Lib.splitK, index_here x t hx]
      have hb : ((x.length : Int) == -1) = false := by rw [beq_eq_false_iff_ne]; omega
      rw [hb, List.count_append, List.count_eq_zero.2 hx, List.count_cons_self] at *
      have e : (x ++ 32 :: t).drop (((x.length : Int)).toNat + [(32 : UInt8)].length) = t := by simp
      rw [if_neg (by simp), e]
      simp [ih t (by omega)]
  exact this _ l rfl
theorem wordsOf_join : ∀ (x : List UInt8) (r : List (List UInt8)), (∀ y ∈ x :: r, (32 : UInt8) ∉ y) → wordsOf (Lib.join (x :: r) [32]) = x :: r
  | x, [], h => by rw [Lib.join_one]; exact wordsOf_one x (h x (List.mem_cons_self ..))
  | x, y :: r, h => by
    have ih := wordsOf_join y r (fun z hz => h z (List.mem_cons_of_mem _ hz))
    have e : Lib.join (x :: y :: r) [32] = x ++ 32 :: Lib.join (y :: r) [32] := by
      rw [Lib.join_cons, Lib.join_cons]
      simp [Lib.joinTail]
    rw [e, wordsOf_cons x _ (h x (List.mem_cons_self ..)), ih]
theorem splitK_le (sep : List UInt8) : ∀ (k : Nat) (l : List UInt8), ∀ x ∈ Lib.splitK sep 0 k l, x.length ≤ l.length
  | 0, l, x, h => by
    rw [Lib.splitK, List.mem_singleton] at h
    rw [h]
    exact Nat.le_refl _
  | k + 1, l, x, h => by
    rw [Lib.splitK] at h
    split at h
    · rw [List.mem_singleton] at h
      rw [h]
      exact Nat.le_refl _
    · rcases List.mem_cons.1 h with rfl | h
      · simp only [List.length_take]; omega
      · have := splitK_le sep k _ x h
        simp only [List.length_drop] at this
        omega
theorem wordsOf_le (l : List UInt8) : ∀ x ∈ wordsOf l, x.length ≤ l.length := splitK_le _ _ _
theorem words_text {d : PDeed} (h : rightP d = true) : wordsOf (textOf d) = wordsP d := by
  unfold textOf wordsP
  refine wordsOf_join _ _ ?_
  intro y hy
  rcases List.mem_cons.1 hy with rfl | hy
  · exact word_blank _ (right_kind h)
  · obtain ⟨p, _, rfl⟩ := List.mem_map.1 hy
    exact itoa_blank _

/-! ## Parse undoes Print -/
theorem fillP_fold (d : PDeed) (ws : List (List UInt8)) : ∀ (l : List PPart) (i : Nat) (o : PDeed), (∀ (j : Nat) (p : PPart), l[j]? = some p → atoiVal (ws.getD (i + j) []) = d.get p.k) → fillP ws i l o = l.foldl (fun o p => o.set p.k (d.get p.k)) o
  | [], _, _, _ => rfl
  | p :: r, i, o, h => by
    have h0 := h 0 p rfl
    rw [Nat.add_zero] at h0
    rw [fillP, h0, fillP_fold d ws r (i + 1) _ (fun j q hq => by
      have := h (j + 1) q (by simpa using hq)
      rw [← this]
      congr 2
      omega)]
    rfl
theorem cand_text {d : PDeed} (h : rightP d = true) : candP (wordsP d) d.kind = d := by
  unfold candP
  rw [fillP_fold d]
  · exact right_only h
  · intro j p hp
    have hf := right_fits h p (List.mem_of_getElem? hp)
    have hb := parts_bd d.kind p (List.mem_of_getElem? hp)
    simp only [PPart.fits] at hf
    have e : (wordsP d).getD (1 + j) [] = Lib.itoa (d.get p.k) := by
      unfold wordsP
      rw [Nat.add_comm 1 j, List.getD_cons_succ, List.getD_eq_getElem?_getD, List.getElem?_map, hp]
      rfl
    rw [e]
    exact atoi_itoa _ (by omega) (by omega)
theorem parseK_text {d : PDeed} (h : rightP d = true) : ∀ (n : Nat) (k : Int), 1 ≤ k → k ≤ d.kind → d.kind < k + n → parseK (textOf d) (wordsP d) n k = some d
  | 0, k, _, _, _ => by omega
  | n + 1, k, h1, h2, h3 => by
    have hk := right_kind h
    have hb := kind_bd _ hk
    rw [parseK]
    by_cases he : k = d.kind
    · subst he
      rw [tryP_some (cand_text h) rfl (by simp [wordsP]; omega) h rfl]
    · have hw : tryP (textOf d) (wordsP d) k = none := by
        refine tryP_word (fun hw => he ?_)
        have hkk : k ∈ kindsL := by
          simp only [kindsL, List.mem_cons, List.not_mem_nil, or_false]
          omega
        exact word_inj k hkk _ hk hw
      rw [hw]
      exact parseK_text h n (k + 1) (by omega) (by omega) (by omega)
/-- A right deed's text is parsed as that deed. -/
theorem parse_text {d : PDeed} (h : rightP d = true) : parseP (textOf d) = some d := by
  have hb := kind_bd _ (right_kind h)
  unfold parseP
  rw [words_text h]
  exact parseK_text h 14 1 (by omega) (by omega) (by omega)
theorem text_inj {c d : PDeed} (hc : rightP c = true) (hd : rightP d = true) (h : textOf c = textOf d) : c = d := by
  have h1 := parse_text hc
  rw [h, parse_text hd] at h1
  injection h1 with h1
  exact h1.symm
theorem wordsP_length (d : PDeed) : (wordsP d).length = 1 + (partsOf d.kind).length := by simp [wordsP]; omega
/-- With a blank more a right deed's text is none. -/
theorem parse_loose {d : PDeed} (h : rightP d = true) (k : Nat) : parseP ((textOf d).take k ++ 32 :: (textOf d).drop k) = none := by
  cases hp : parseP ((textOf d).take k ++ 32 :: (textOf d).drop k) with
  | none => rfl
  | some e =>
    exfalso
    obtain ⟨hr, ht⟩ := parseP_inv hp
    have hw := words_text hr
    have hwd := words_text h
    rw [ht] at hw
    have hkd := right_kind h
    have hke := right_kind hr
    have hl : (wordsP e).length = (wordsP d).length + 1 := by
      rw [← hw, ← hwd, wordsOf_length, wordsOf_length, List.count_append, List.count_cons_self]
      have := congrArg (List.count 32) (List.take_append_drop k (textOf d))
      rw [List.count_append] at this
      omega
    by_cases hk : k < (wordOf d.kind).length
    · have hwt : (textOf d).take k = (wordOf d.kind).take k := by
        unfold textOf wordsP
        rw [Lib.join_cons, List.take_append_of_le_length (by omega)]
      have hb : (32 : UInt8) ∉ (wordOf d.kind).take k := fun hm => word_blank _ hkd (List.mem_of_mem_take hm)
      rw [hwt, wordsOf_cons _ _ hb] at hw
      have h0 : (wordOf d.kind).take k = wordOf e.kind := by
        unfold wordsP at hw
        injection hw
      have := word_len5 _ hkd
      exact word_prefix _ hkd _ hke k (List.mem_range.2 (by omega)) hk h0
    · have hx : ∃ t, (textOf d).take k ++ 32 :: (textOf d).drop k = wordOf d.kind ++ 32 :: t := by
        unfold textOf wordsP
        rw [Lib.join_cons]
        generalize hq : (partsOf d.kind).map (fun p => Lib.itoa (d.get p.k)) = q
        have hk' : (wordOf d.kind).length ≤ k := by omega
        rw [List.take_append, List.drop_append]
        cases q with
        | nil => exact ⟨[], by simp [Lib.joinTail, List.take_of_length_le hk', List.drop_of_length_le hk']⟩
        | cons y r =>
          rw [List.take_of_length_le hk', List.drop_of_length_le hk']
          have e1 : Lib.joinTail [32] (y :: r) = 32 :: (y ++ Lib.joinTail [32] r) := by simp [Lib.joinTail]
          rw [e1]
          cases hm : k - (wordOf d.kind).length with
          | zero => exact ⟨32 :: (y ++ Lib.joinTail [32] r), by simp⟩
          | succ m => exact ⟨_, by rw [List.take_succ_cons, List.append_assoc, List.cons_append]⟩
      obtain ⟨t, hx⟩ := hx
      rw [hx, wordsOf_cons _ _ (word_blank _ hkd)] at hw
      have h0 : wordOf d.kind = wordOf e.kind := by
        unfold wordsP at hw
        injection hw
      have hkk := word_inj _ hkd _ hke h0
      rw [wordsP_length, wordsP_length, hkk] at hl
      omega
end Go.Proofs.YtbjknkgefpeohaaDoor
