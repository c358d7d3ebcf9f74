/- The rows' condition: what they list of the package-level variables is what the walks ask (Env); a world that lays it, for the witness; and the wrap with both, the list and the world's shape. Conditions: none. -/
import Derived.Test.YtbjknkgefpeohaaDoorRows
import Derived.Test.YtbjknkgefpeohaaDoorEnvS
import Derived.Test.YtbjknkgefpeohaaDoorPost
import Derived.ProofKit
import Derived.OpenShut
import Derived.LaidMore
import Derived.Lay
import Derived.SevenTiedAt
import Derived.Stop.Joined
import Derived.Stop.LaidErr
import Derived.Lib.LaidTab
import Derived.Shelf.Vars
import Derived.SizedLaws
namespace Go.Proofs.YtbjknkgefpeohaaDoor
open Go.ChangeShapes Go.WideShapes Go.ChangeAt Go.RowKit

/-- What the rows list. -/
def laidL : List (String × DataW Unit) := Rows.programBackRow.laid

theorem Tryd.star : "*" ++ "errors.errorString" = "*errors.errorString" := by decide
theorem Tryd.rowErr (u : TypeId) (h : Tryd.prog.typeName? 3 u = some "*errors.errorString") : u = 123 :=
  typeName_ptr_named (nm := "errors.errorString") (by rw [Tryd.star]; kernel_rfl) (by kernel_rfl) (by decide) u (by rw [Tryd.star]; exact h)

theorem env_of_laid {W : World} (h : laidMetH Tryd.prog laidL W) (hs : W.ShapedOpen Tryd.prog) : Env W := by
  rw [MakeChecks.laidMetH_plain _ _ _ (by kernel_rfl)] at h
  have h3 := laidMet.tail (laidMet.tail h)
  have h5 := laidMet.tail (laidMet.tail h3)
  have h6 := laidMet.tail h5
  refine ⟨?_, ?_, ?_, ?_⟩
  · exact Lib.tabIs_of_head (k := .u64) (zs := Lib.pow10Tab) (g := 2) (t := 116) (e := 95) (n := 20) (by kernel_rfl) (by kernel_rfl) Tryd.underlying116 Tryd.underlying95 (by kernel_rfl) (by kernel_rfl) h3
  · obtain ⟨a0, s0, hv0, -⟩ := laid_sentinel h6 (show Tryd.prog.globalNamed "strconv.ErrSyntax" = some 0 by kernel_rfl) (show (Tryd.prog.globals[0]?).map (·.type) = some 67 by kernel_rfl) Tryd.underlying67 Tryd.rowErr Tryd.underlying123 Tryd.underlying125 rfl rfl Tryd.underlying9 (by kernel_rfl) (by kernel_rfl)
    exact ⟨_, _, hv0⟩
  · obtain ⟨a0, s0, hv0, -⟩ := laid_sentinel h5 (show Tryd.prog.globalNamed "strconv.ErrRange" = some 1 by kernel_rfl) (show (Tryd.prog.globals[1]?).map (·.type) = some 67 by kernel_rfl) Tryd.underlying67 Tryd.rowErr Tryd.underlying123 Tryd.underlying125 rfl rfl Tryd.underlying9 (by kernel_rfl) (by kernel_rfl)
    exact ⟨_, _, hv0⟩
  · exact cell_of_shapedOpen_int (P := Tryd.prog) (g := 3) (t := 3) (zero := #[.int .i64 0]) hs (of_decide_eq_true (by kernel_rfl)) (by kernel_rfl) rfl (by kernel_rfl) (by kernel_rfl) Tryd.underlying3

/-- The witness' world: each listed variable laid. -/
noncomputable def witW (os : Os) : World := World.laidAll Tryd.prog os laidL
theorem wit_os (os : Os) : (witW os).os = os := World.laidAll_os _ _ _
theorem wit_met (os : Os) (args : Array Value) : laidMetH Tryd.prog laidL ((witW os).forCall (fun _ _ => 0) ⟨#[], args, []⟩).memory := by
  rw [MakeChecks.laidMetH_plain _ _ _ (by kernel_rfl)]
  exact laidMet_laidAll _ (by kernel_rfl) (by kernel_rfl)

section
variable {H : Type} {enc : TypeId × Value → H}
theorem returns_both {a : Assume} {C : Checked} {os : Os} {f : FuncId} {fn : Func} {s : ChangeSpec} {conds : List PathCond} {apart fresh handsOn again : Bool} {X : World → Array Value → Prop}
    (hX : ∀ (w w' : World) (args : Array Value), w.heap = w'.heap → X w args → X w' args)
    (own : ownKnob C.prog.godebug = none) (started : os.Started) (noInit : C.prog.inits.idxOf? f = none) (hfn : C.prog.funcs[f]? = some fn)
    (witness : ∃ (w : World) (tape : Tape) (i : Input), w.os = os ∧ (w.forCall tape i).Shaped C.prog ∧ i.vars = [] ∧ Input.okWide C.prog (w.forCall tape i) .any w.heap.size f i ∧
      ((s.pre enc C.prog fn conds apart (w.forCall tape i).memory i.args ∧ X (w.forCall tape i).memory i.args) ∧ sizedMet enc C.prog fn (OpenSpec.ofChange s) apart (w.forCall tape i).memory i.args) ∧ a.holds C.prog (lone (Frame.enter C.prog f i.args .normal) [] (w.forCall tape i)))
    (contract : ∀ (W : World) (base : Nat) (args : Array Value) (ds gs : List (DataW H)) (before : List MemPlace),
      (∀ (j : Nat) t v, fn.params[j]? = some t → args[j]? = some v → Value.okWide C.prog W .any base t v) →
      DataW.Whole enc C.prog fn.params.toList s.vars apart W args.toList ds gs before →
      (DataW.weightsEach C.prog (fn.params.toList ++ s.plain.varTypes C.prog) (ds ++ gs)).all (· ≤ reachBytes) = true → X W args → W.ShapedOpen C.prog →
      Calls C.prog f args W fun e W' => ∃ v, e = .returned v ∧ s.post enc C.prog fn apart fresh handsOn again W args v W') :
    ReturnsInHanded a C os f .any (fun w args => (s.pre enc C.prog fn conds apart w args ∧ X w args) ∧ sizedMet enc C.prog fn (OpenSpec.ofChange s) apart w args) (s.post enc C.prog fn apart fresh handsOn again) := by
  refine returnsInHanded_of_calls own started noInit witness ?_
  intro w tape i _ hsh _ hok hpre _
  obtain ⟨_, _, _, fn2, hfn2, _, _, _, _, hval⟩ := hok
  obtain rfl : fn2 = fn := Option.some.inj (hfn2.symm.trans hfn)
  obtain ⟨⟨⟨ds, gs, before, hw, _⟩, hx⟩, hz⟩ := hpre
  refine (contract (w.forCall tape i) w.heap.size i.args ds gs before hval (DataW.Whole.of_heap (w' := w.forCall tape i) (by rfl) hw) (hz.weights hw) (hX _ _ _ (by rfl) hx) hsh).mono ?_
  rintro e W' ⟨v, rfl, hp⟩
  exact ChangeSpec.post_blind hp
end
end Go.Proofs.YtbjknkgefpeohaaDoor
