/-
  No cell of these rows narrows 'for every input' (looked for: loops, veiled, ifaces, maps, wideKeys, modest, calm, conditions, laid).
  DERIVED. THE GIVEN ROWS OF THIS SEAT. 5 by the template 'for every input the law returns true; each argument reads behind the call as it read before'; 0 by the template 'total and deterministic' (their statements: YtbjknkgefpeohaaTotals.lean).
  GIVEN WITH THE SEED: the statements are not yours to turn. If you find one false, say at which input.
  Laid BY PROGRAM, IN A SANDBOX (cutbox-rows.mjs): the forced cells as the released guide's own fill.sh prints them over the translation 3b68f8e58ca82785… (all of the seat's roots in one cut). By AI agents, Wed Nov 11 2026. No macro, syntax, notation, axiom, sorry.
-/
import Derived.Test.YtbjknkgefpeohaaChecked
import GoSem.Claim
import GoSem.ClaimJoined
import GoSem.ClaimMapViews
import Derived.JoinedTies
import Derived.KernelRfl
namespace Go.Proofs.Ytbjknkgefpeohaa
/- THE CELL 'sum', in the pinned program and in every row, IS THE sha256 OF THE DUMP (.gsa) THAT YtbjknkgefpeohaaProg.lean LOADS. Nothing in Lean hashes anything: it is a label: what it is worth is what the hold of that sum in a sandbox is worth. -/
noncomputable def Try.pinned : Pinned := { name := "ytbjknkgefpeohaa", sum := "3b68f8e58ca8278590789592f18173fa34083d7f562140927c77871471ae2a1c", checked := Try.checked }
namespace Rows
def none {H : Type} : Left H := { results := [], args := [] }

/-- 'middenheaplaw18.ModelKeeps': WHATEVER THE INPUT: true; the input reads as it did. -/
def modelKeepsSpec : ChangeSpec := { name := "modelKeeps", fn := fun _ => fun
  | [d1, d2, d3, d4, d5] => { results := [.lit (.bool true)], args := [d1, d2, d3, d4, d5] }
  | _ => none }
def modelKeepsRow : OpenClaim := { program := "ytbjknkgefpeohaa", sum := "3b68f8e58ca8278590789592f18173fa34083d7f562140927c77871471ae2a1c", func := "middenheap/middenheaplaw18.ModelKeeps", spec := "modelKeeps", unfollowed := true, recurses := true, apart := false }
def ModelKeepsSaid : Prop := modelKeepsRow.holds Try.pinned (OpenSpec.ofChange modelKeepsSpec)

/-- ITS FALSE NEIGHBOUR: 'it returns false'. Refute it at one input. -/
def modelKeepsWrong : ChangeSpec := { name := "modelKeeps", fn := fun _ => fun
  | [d1, d2, d3, d4, d5] => { results := [.lit (.bool false)], args := [d1, d2, d3, d4, d5] }
  | _ => none }
def ModelKeepsWrongFalsely : Prop := modelKeepsRow.holds Try.pinned (OpenSpec.ofChange modelKeepsWrong)

/-- 'middenheaplaw18.ModelWrites': WHATEVER THE INPUT: true; the input reads as it did. -/
def modelWritesSpec : ChangeSpec := { name := "modelWrites", fn := fun _ => fun
  | [d1, d2, d3, d4] => { results := [.lit (.bool true)], args := [d1, d2, d3, d4] }
  | _ => none }
def modelWritesRow : OpenClaim := { program := "ytbjknkgefpeohaa", sum := "3b68f8e58ca8278590789592f18173fa34083d7f562140927c77871471ae2a1c", func := "middenheap/middenheaplaw18.ModelWrites", spec := "modelWrites", unfollowed := true, recurses := true, apart := false }
def ModelWritesSaid : Prop := modelWritesRow.holds Try.pinned (OpenSpec.ofChange modelWritesSpec)

/-- ITS FALSE NEIGHBOUR: 'it returns false'. Refute it at one input. -/
def modelWritesWrong : ChangeSpec := { name := "modelWrites", fn := fun _ => fun
  | [d1, d2, d3, d4] => { results := [.lit (.bool false)], args := [d1, d2, d3, d4] }
  | _ => none }
def ModelWritesWrongFalsely : Prop := modelWritesRow.holds Try.pinned (OpenSpec.ofChange modelWritesWrong)

/-- 'middenheaplaw18.ModelOrder': WHATEVER THE INPUT: true; the input reads as it did. -/
def modelOrderSpec : ChangeSpec := { name := "modelOrder", fn := fun _ => fun
  | [d1, d2, d3, d4] => { results := [.lit (.bool true)], args := [d1, d2, d3, d4] }
  | _ => none }
def modelOrderRow : OpenClaim := { program := "ytbjknkgefpeohaa", sum := "3b68f8e58ca8278590789592f18173fa34083d7f562140927c77871471ae2a1c", func := "middenheap/middenheaplaw18.ModelOrder", spec := "modelOrder", unfollowed := true, recurses := true, apart := false }
def ModelOrderSaid : Prop := modelOrderRow.holds Try.pinned (OpenSpec.ofChange modelOrderSpec)

/-- ITS FALSE NEIGHBOUR: 'it returns false'. Refute it at one input. -/
def modelOrderWrong : ChangeSpec := { name := "modelOrder", fn := fun _ => fun
  | [d1, d2, d3, d4] => { results := [.lit (.bool false)], args := [d1, d2, d3, d4] }
  | _ => none }
def ModelOrderWrongFalsely : Prop := modelOrderRow.holds Try.pinned (OpenSpec.ofChange modelOrderWrong)

/-- 'middenheaplaw18.ModelFreed': WHATEVER THE INPUT: true; the input reads as it did. -/
def modelFreedSpec : ChangeSpec := { name := "modelFreed", fn := fun _ => fun
  | [d1, d2, d3] => { results := [.lit (.bool true)], args := [d1, d2, d3] }
  | _ => none }
def modelFreedRow : OpenClaim := { program := "ytbjknkgefpeohaa", sum := "3b68f8e58ca8278590789592f18173fa34083d7f562140927c77871471ae2a1c", func := "middenheap/middenheaplaw18.ModelFreed", spec := "modelFreed", unfollowed := true, recurses := true, apart := false }
def ModelFreedSaid : Prop := modelFreedRow.holds Try.pinned (OpenSpec.ofChange modelFreedSpec)

/-- ITS FALSE NEIGHBOUR: 'it returns false'. Refute it at one input. -/
def modelFreedWrong : ChangeSpec := { name := "modelFreed", fn := fun _ => fun
  | [d1, d2, d3] => { results := [.lit (.bool false)], args := [d1, d2, d3] }
  | _ => none }
def ModelFreedWrongFalsely : Prop := modelFreedRow.holds Try.pinned (OpenSpec.ofChange modelFreedWrong)

/-- 'middenheaplaw18.ModelTakes': WHATEVER THE INPUT: true; the input reads as it did. -/
def modelTakesSpec : ChangeSpec := { name := "modelTakes", fn := fun _ => fun
  | [d1, d2] => { results := [.lit (.bool true)], args := [d1, d2] }
  | _ => none }
def modelTakesRow : OpenClaim := { program := "ytbjknkgefpeohaa", sum := "3b68f8e58ca8278590789592f18173fa34083d7f562140927c77871471ae2a1c", func := "middenheap/middenheaplaw18.ModelTakes", spec := "modelTakes", unfollowed := true, recurses := true, apart := false }
def ModelTakesSaid : Prop := modelTakesRow.holds Try.pinned (OpenSpec.ofChange modelTakesSpec)

/-- ITS FALSE NEIGHBOUR: 'it returns false'. Refute it at one input. -/
def modelTakesWrong : ChangeSpec := { name := "modelTakes", fn := fun _ => fun
  | [d1, d2] => { results := [.lit (.bool false)], args := [d1, d2] }
  | _ => none }
def ModelTakesWrongFalsely : Prop := modelTakesRow.holds Try.pinned (OpenSpec.ofChange modelTakesWrong)

/- THE SECOND FORM. 'bulk': how many values and letters a reading holds, each counted each time it is reached (what is shared counts as often as it is met; a slice's spare places count too). A statement '..UptoSaid' is the law's where the arguments, and the package variables that the reading takes, are together of bulk at most 1048576: NARROWER than '..Said'. Prove '..Said' where nothing that the law and all that it calls make is longer than what came in: it says more and counts as full. Else prove '..UptoSaid'. A law counts once. -/
mutual
def uptoBulk {H : Type} : DataW H → Nat
  | .lit (.string bytes) => bytes.length + 1
  | .lit _ => 1
  | .nil => 1
  | .ptr d => uptoBulk d + 1
  | .slice elems spare => uptoBulkAll elems + uptoBulkAll spare + 1
  | .agg parts => uptoBulkAll parts + 1
  | .iface _ d => uptoBulk d + 1
  | .map entries => uptoBulkEntries entries + 1
  | .held _ => 1
def uptoBulkAll {H : Type} : List (DataW H) → Nat
  | [] => 0
  | d :: r => uptoBulk d + uptoBulkAll r
def uptoBulkEntries {H : Type} : List (Lit × DataW H) → Nat
  | [] => 0
  | x :: r => uptoBulkEntry x + uptoBulkEntries r
def uptoBulkEntry {H : Type} : Lit × DataW H → Nat
  | (.string bytes, d) => bytes.length + uptoBulk d + 1
  | (_, d) => uptoBulk d + 1
 end
def uptoSmall : (H : Type) → List (DataW H) → Bool := fun _ ds => decide (uptoBulkAll ds ≤ 1048576)
def OpenSpec.upto (s : _root_.Go.ChangeSpec) : _root_.Go.OpenSpec := { _root_.Go.OpenSpec.ofChange s with cond := some uptoSmall }

/-- 'middenheaplaw18.ModelKeeps', WHERE WHAT IT READS IS OF BULK AT MOST 1048576: true; the input reads as it did. -/
def modelKeepsUptoRow : OpenClaim := { program := "ytbjknkgefpeohaa", sum := "3b68f8e58ca8278590789592f18173fa34083d7f562140927c77871471ae2a1c", func := "middenheap/middenheaplaw18.ModelKeeps", spec := "modelKeeps", unfollowed := true, recurses := true, apart := false, narrowed := true }
def ModelKeepsUptoSaid : Prop := modelKeepsUptoRow.holds Try.pinned (OpenSpec.upto modelKeepsSpec)

/-- 'middenheaplaw18.ModelWrites', WHERE WHAT IT READS IS OF BULK AT MOST 1048576: true; the input reads as it did. -/
def modelWritesUptoRow : OpenClaim := { program := "ytbjknkgefpeohaa", sum := "3b68f8e58ca8278590789592f18173fa34083d7f562140927c77871471ae2a1c", func := "middenheap/middenheaplaw18.ModelWrites", spec := "modelWrites", unfollowed := true, recurses := true, apart := false, narrowed := true }
def ModelWritesUptoSaid : Prop := modelWritesUptoRow.holds Try.pinned (OpenSpec.upto modelWritesSpec)

/-- 'middenheaplaw18.ModelOrder', WHERE WHAT IT READS IS OF BULK AT MOST 1048576: true; the input reads as it did. -/
def modelOrderUptoRow : OpenClaim := { program := "ytbjknkgefpeohaa", sum := "3b68f8e58ca8278590789592f18173fa34083d7f562140927c77871471ae2a1c", func := "middenheap/middenheaplaw18.ModelOrder", spec := "modelOrder", unfollowed := true, recurses := true, apart := false, narrowed := true }
def ModelOrderUptoSaid : Prop := modelOrderUptoRow.holds Try.pinned (OpenSpec.upto modelOrderSpec)

/-- 'middenheaplaw18.ModelFreed', WHERE WHAT IT READS IS OF BULK AT MOST 1048576: true; the input reads as it did. -/
def modelFreedUptoRow : OpenClaim := { program := "ytbjknkgefpeohaa", sum := "3b68f8e58ca8278590789592f18173fa34083d7f562140927c77871471ae2a1c", func := "middenheap/middenheaplaw18.ModelFreed", spec := "modelFreed", unfollowed := true, recurses := true, apart := false, narrowed := true }
def ModelFreedUptoSaid : Prop := modelFreedUptoRow.holds Try.pinned (OpenSpec.upto modelFreedSpec)

/-- 'middenheaplaw18.ModelTakes', WHERE WHAT IT READS IS OF BULK AT MOST 1048576: true; the input reads as it did. -/
def modelTakesUptoRow : OpenClaim := { program := "ytbjknkgefpeohaa", sum := "3b68f8e58ca8278590789592f18173fa34083d7f562140927c77871471ae2a1c", func := "middenheap/middenheaplaw18.ModelTakes", spec := "modelTakes", unfollowed := true, recurses := true, apart := false, narrowed := true }
def ModelTakesUptoSaid : Prop := modelTakesUptoRow.holds Try.pinned (OpenSpec.upto modelTakesSpec)

end Rows
end Go.Proofs.Ytbjknkgefpeohaa
