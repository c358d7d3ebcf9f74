/- Contracts of what a kind's form is, and whether a deed is right. Conditions: none. -/
import Derived.Test.YtbjknkgefpeohaaDoorLeaf
import Derived.Laws.EntriesVeiled
import Derived.Deep.CutBlock
import Derived.Test.YtbjknkgefpeohaaDoorPure
namespace Go.Proofs.YtbjknkgefpeohaaDoor
open Go.RowKit
set_option maxRecDepth 100000
attribute [local go_sem ↓] Go.wp_at_zero Go.wp_at_succ

theorem sl_part : SlTy Tryd.prog 46 52 3 24 := slTy_mk Tryd.underlying46 (z := .agg #[.nilFunc, .int .i64 0, .int .i64 0]) (by kernel_rfl) rfl (by decide) (by decide)

def fnOf : Nat → Value
  | 1 => .func (.func 34) #[] #[]
  | 2 => .func (.func 35) #[] #[]
  | 3 => .func (.func 36) #[] #[]
  | _ => .func (.func 37) #[] #[]
def partCells (p : PPart) : List Value := [fnOf p.k, .int .i64 p.lo, .int .i64 p.hi]
def partRow (l : List PPart) : List Value := l.flatMap partCells

theorem form_1 (f : Fn) (w : World) :
    Calls Tryd.prog 33 #[.func f #[] #[]] w fun e w' => e = .returned (.agg #[.func f #[] #[], .int .i64 0, .int .i64 5]) ∧ Fr No w w' := by
  go_enter Tryd.func33, Tryd.ntmps33
  go_wp2_with (refine wpList_store_whole rfl 52 (.tmp 2) (.tmp 4) rfl w.heap.size rfl [.func f #[] #[], .int .i64 0, .int .i64 5] rfl 52 [.nilFunc, .int .i64 0, .int .i64 0] (Whole.new w _ _) (by kernel_rfl) rfl rfl ?_; intro w1 hW1 hf1)
  refine bodyPost_ret (results_whole Tryd.results33 rfl hW1 Tryd.underlying52 rfl (by kernel_rfl)) rfl ⟨rfl, ((Fr.refl No w).alloc _).next hf1 (fun i hi hg => by simp only [Only] at hg; omega)⟩

set_option maxHeartbeats 1000000 in
theorem form_calls (k : Int) (w : World) :
    Calls Tryd.prog 20 #[.int .i64 k] w
      fun e w' => ∃ A c, e = .returned (.agg #[.string ⟨(wordOf k).toArray⟩, .slice A (partsOf k).length c]) ∧ Row w' 3 A (partsOf k).length c (partRow (partsOf k)) ∧ Fr No w w' := by
  go_enter Tryd.func20, Tryd.ntmps20
  go_upto_region 5 with (first | (go_at_call 33; refine (form_1 (.func 34) _).mono ?_; rintro e w1 ⟨rfl, hf1⟩; obtain ⟨q1, q2, q3⟩ := hf1.cells) | (go_at_call 33; refine (form_1 (.func 35) _).mono ?_; rintro e w2 ⟨rfl, hf2⟩; obtain ⟨q4, q5, q6⟩ := hf2.cells))
  refine gen_world _ (fun W => Whole W w.heap.size 48 [.string ⟨#[]⟩, .slice none 0 0] ∧ Whole W w2.heap.size 52 [.func (.func 34) #[] #[], .int .i64 0, .int .i64 5] ∧ Whole W (w2.heap.size + 1) 52 [.func (.func 35) #[] #[], .int .i64 0, .int .i64 5] ∧ Whole W (w2.heap.size + 1 + 1) 52 [.func (.func 36) #[] #[], .int .i64 0, .int .i64 7] ∧ Whole W (w2.heap.size + 1 + 1 + 1) 52 [.func (.func 36) #[] #[], .int .i64 0, .int .i64 4, .func (.func 37) #[] #[], .int .i64 0, .int .i64 4] ∧ Fr No w W)
    ⟨(((((hf2.whole (hf1.whole (Whole.new w 48 [.string ⟨#[]⟩, .slice none 0 0]) (fun x => x)) (fun x => x)).alloc _).alloc _).alloc _).alloc _), (((Whole.new w2 52 [.func (.func 34) #[] #[], .int .i64 0, .int .i64 5]).alloc _).alloc _).alloc _, ((Whole.new1 w2 52 [.func (.func 35) #[] #[], .int .i64 0, .int .i64 5] _).alloc _).alloc _, (Whole.new2 w2 52 [.func (.func 36) #[] #[], .int .i64 0, .int .i64 7] _ _).alloc _, Whole.new3 w2 52 [.func (.func 36) #[] #[], .int .i64 0, .int .i64 4, .func (.func 37) #[] #[], .int .i64 0, .int .i64 4] _ _ _, (((((((Fr.refl No w).alloc _).trans hf1).trans hf2).alloc _).alloc _).alloc _).alloc _⟩ ?_
  have hn : w.heap.size < w2.heap.size := by have h1 := hf1.size; have h2 := hf2.size; simp at h1; omega
  rintro W ⟨hS, h4, h5, h6, h7, hF⟩
  generalize w2.heap.size = n2 at *
  clear q1 q2 q3 q4 q5 q6 hf1 hf2
  have e4 := h4.cell
  have e5 := h5.cell
  have e6 := h6.cell
  go_wp2_with (first
    | (at_builtin; refine wpList_apps sl_part _ rfl _ _ rfl W.heap.size (.slice (some ⟨W.heap.size, 0, none⟩) 1 1) 1 [.func (.func 34) #[] #[], .int .i64 0, .int .i64 5] rfl (World.ownsRow_lit W ([.func (.func 34) #[] #[], .int .i64 0, .int .i64 5]).toArray 1 (Nat.le_refl _) (by decide) rfl) (some ⟨n2 + 1 + 1 + 1, 0, none⟩) 2 2 [.func (.func 36) #[] #[], .int .i64 0, .int .i64 4, .func (.func 37) #[] #[], .int .i64 0, .int .i64 4] rfl (Row.of_whole (h7.alloc _) 3 2 rfl) (by simp [Value.oneCell']) (by decide) (by simp) ?_; intro A3 c3 w3 hown3 hg3 hat3; have hF3 : Fr No W w3 := ((Fr.refl No W).alloc _).grown hg3 (fun k hk => Or.inr (by simp [Value.ownBlock] at hk; omega)); have hS3 := hF3.whole hS (fun x => x))
    | (refine wpList_store_whole rfl 48 (.tmp 2) _ rfl w.heap.size rfl _ rfl 48 _ hS3 (by kernel_rfl) rfl rfl ?_; intro w4 hR4 hf4)
    | (refine wpList_store_whole rfl 48 (.tmp 2) _ rfl w.heap.size rfl _ rfl 48 _ (hS.alloc _) (by kernel_rfl) rfl rfl ?_; intro w4 hR4 hf4)
    | (refine wpList_store_whole rfl 48 (.tmp 2) _ rfl w.heap.size rfl _ rfl 48 _ hS (by kernel_rfl) rfl rfl ?_; intro w4 hR4 hf4))
  all_goals have hW := h4.lt
  all_goals try (have hk := beq_iff_eq.1 ‹(k == _) = true›; subst hk)
  all_goals try
    refine bodyPost_ret (results_whole Tryd.results20 rfl hR4 Tryd.underlying48 rfl (by kernel_rfl)) rfl ?_
  all_goals try
    exact ⟨A3, c3, rfl, Row.of_own (own_fr hown3 hf4 (fun g hg => by have := hown3.lt g hg; simp only [Only]; omega)), (hF.trans hF3).next hf4 (fun i hi hg => by simp only [Only] at hg; omega)⟩
  all_goals try
    exact ⟨some ⟨W.heap.size, 0, none⟩, _, rfl, Row.of_whole (hf4.whole (Whole.new W _ _) (by simp only [Only]; omega)) 3 _ rfl, (hF.alloc _).next hf4 (fun i hi hg => by simp only [Only] at hg; omega)⟩
  all_goals try
    exact ⟨none, 0, rfl, Row.nil _ _ _ _, hF.next hf4 (fun i hi hg => by simp only [Only] at hg; omega)⟩
  have hp : partsOf k = [] ∧ wordOf k = [] := by
    clear hR4 hf4 e4 e5 e6 h4 h5 h6 h7 hS hF
    simp only [beq_eq_false_iff_ne, ne_eq] at *
    simp [partsOf, wordOf, *]
  rw [hp.1, hp.2]
  exact ⟨none, 0, rfl, Row.nil _ _ _ _, hF.next hf4 (fun i hi hg => by simp only [Only] at hg; omega)⟩
end Go.Proofs.YtbjknkgefpeohaaDoor
