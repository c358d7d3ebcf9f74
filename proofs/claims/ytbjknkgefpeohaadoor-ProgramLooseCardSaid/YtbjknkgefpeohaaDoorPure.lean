/- Plain data and plain functions: what the package model does, over lists and integers, with no program in sight. Conditions: none. -/
namespace Go.Proofs.YtbjknkgefpeohaaDoor

structure PDeed where
  kind : Int
  a : Int
  b : Int
  i : Int
  n : Int
  deriving DecidableEq

structure PObj where
  serial : Int
  np : Int
  nd : Int
  weak : Bool
  fin : Bool
  ptrs : List Int
  nums : List Int
  freed : Bool
  deriving DecidableEq

structure PModel where
  objs : List PObj
  queue : List (Int × Int)
  deriving DecidableEq

/-- where the first object of a serial stands; below 0: nowhere. -/
def idxZ (l : List Int) (s : Int) : Int := match l.findIdx? (· == s) with | some i => (i : Int) | none => -1
def PModel.serials (m : PModel) : List Int := m.objs.map (·.serial)
def PModel.find (m : PModel) (s : Int) : Option PObj := m.objs.find? (·.serial == s)

/-- A part of a deed: which one (1 to 4: A, B, I, N), from where to where it may be. -/
structure PPart where
  k : Nat
  lo : Int
  hi : Int
  deriving DecidableEq
def PDeed.get (d : PDeed) : Nat → Int
  | 0 => d.kind
  | 1 => d.a
  | 2 => d.b
  | 3 => d.i
  | _ => d.n
def pA : PPart := ⟨1, 0, 5⟩
def pB : PPart := ⟨2, 0, 5⟩
def pI : PPart := ⟨3, 0, 7⟩
def pS : PPart := ⟨3, 0, 4⟩
def pT : PPart := ⟨4, 0, 4⟩
def pN : PPart := ⟨4, -1000000, 1000000⟩
/-- a kind's parts, in their order. -/
def partsOf (k : Int) : List PPart :=
  if k = 1 then [pA, pS, pT] else if k = 2 then [pA, pS, pT] else if k = 3 then [pA, pB] else if k = 4 then [pA, pB, pI] else if k = 5 then [pA, pI, pB]
  else if k = 6 then [pA, pI] else if k = 7 then [pA, pI, pN] else if k = 8 then [pA] else if k = 9 then [pA, pB] else if k = 10 then [pA]
  else if k = 11 then [pA, pB] else if k = 12 then [pA, pB] else if k = 13 then [pA] else []
/-- a kind's word; none: there is none such. -/
def wordOf (k : Int) : List UInt8 :=
  if k = 1 then [97, 108, 108, 111, 99] else if k = 2 then [102, 105, 110, 97, 108] else if k = 3 then [119, 101, 97, 107] else if k = 4 then [103, 101, 116] else if k = 5 then [112, 117, 116]
  else if k = 6 then [114, 101, 97, 100] else if k = 7 then [119, 114, 105, 116, 101] else if k = 8 then [102, 114, 101, 101] else if k = 9 then [108, 111, 97, 100] else if k = 10 then [116, 97, 107, 101]
  else if k = 11 then [115, 97, 109, 101] else if k = 12 then [109, 111, 118, 101] else if k = 13 then [110, 105, 108] else if k = 14 then [97, 98, 111, 114, 116] else []

def PDeed.set (d : PDeed) (k : Nat) (v : Int) : PDeed :=
  match k with
  | 0 => { d with kind := v }
  | 1 => { d with a := v }
  | 2 => { d with b := v }
  | 3 => { d with i := v }
  | _ => { d with n := v }
/-- a deed that has of another one just these parts. -/
def onlyOf (d : PDeed) (l : List PPart) : PDeed := l.foldl (fun o p => o.set p.k (d.get p.k)) ⟨d.kind, 0, 0, 0, 0⟩
def PPart.fits (d : PDeed) (p : PPart) : Prop := p.lo ≤ d.get p.k ∧ d.get p.k ≤ p.hi
instance (d : PDeed) (p : PPart) : Decidable (p.fits d) := by unfold PPart.fits; infer_instance
def rightP (d : PDeed) : Bool := (partsOf d.kind).all (fun p => decide (p.fits d)) && (decide (wordOf d.kind ≠ []) && decide (onlyOf d (partsOf d.kind) = d))
theorem onlyOf_snoc (d : PDeed) (l : List PPart) (p : PPart) : onlyOf d (l ++ [p]) = (onlyOf d l).set p.k (d.get p.k) := by simp [onlyOf]
theorem mem_ite_or {α : Type} {c : Prop} [Decidable c] {x : α} {a b : List α} (h : x ∈ if c then a else b) : x ∈ a ∨ x ∈ b := by
  by_cases hc : c
  · rw [if_pos hc] at h; exact .inl h
  · rw [if_neg hc] at h; exact .inr h
theorem len_ite {α : Type} {c : Prop} [Decidable c] {a b : List α} {n : Nat} (h1 : a.length ≤ n) (h2 : b.length ≤ n) : (if c then a else b).length ≤ n := by
  by_cases hc : c
  · rw [if_pos hc]; exact h1
  · rw [if_neg hc]; exact h2
theorem partsOf_len (k : Int) : (partsOf k).length ≤ 3 := by
  unfold partsOf
  iterate 13 (refine len_ite (by decide) ?_)
  decide
theorem partsOf_k (k : Int) : ∀ p ∈ partsOf k, p.k = 1 ∨ p.k = 2 ∨ p.k = 3 ∨ p.k = 4 := by
  intro p hp
  unfold partsOf at hp
  iterate 13 (have hq := mem_ite_or hp; clear hp; rcases hq with hp | hp; (· revert p; decide))
  cases hp

/-- of n things, the one that a raw number speaks of. -/
def pickZ (c n : Int) : Int := (if c < 0 then -(c + 1) else c) % n
theorem pickZ_bd (c n : Int) (hn : 0 < n) : 0 ≤ pickZ c n ∧ pickZ c n < n := ⟨Int.emod_nonneg _ (by omega), Int.emod_lt_of_pos _ hn⟩
end Go.Proofs.YtbjknkgefpeohaaDoor
