/-
  No cell of these rows narrows 'for every input' (looked for: loops, veiled, ifaces, maps, wideKeys, modest, calm, conditions, laid).
  DERIVED. THE GIVEN ROWS OF THIS SEAT. 12 by the template 'for every input the law returns true; each argument reads behind the call as it read before'; 0 by the template 'total and deterministic' (their statements: YtpgobchpnjgbdaaTotals.lean).
  GIVEN WITH THE SEED: the statements are not yours to turn. If you find one false, say at which input.
  Laid BY PROGRAM, IN A SANDBOX (cutbox-rows.mjs): the forced cells as the released guide's own fill.sh prints them over the translation 9653fe4feff8c39c… (all of the seat's roots in one cut). By AI agents, Wed Nov 11 2026. No macro, syntax, notation, axiom, sorry.
-/
import Derived.Test.YtpgobchpnjgbdaaChecked
import GoSem.Claim
import GoSem.ClaimJoined
import GoSem.ClaimMapViews
import Derived.JoinedTies
import Derived.KernelRfl
namespace Go.Proofs.Ytpgobchpnjgbdaa
/- THE CELL 'sum', in the pinned program and in every row, IS THE sha256 OF THE DUMP (.gsa) THAT YtpgobchpnjgbdaaProg.lean LOADS. Nothing in Lean hashes anything: it is a label: what it is worth is what the hold of that sum in a sandbox is worth. -/
noncomputable def Try.pinned : Pinned := { name := "ytpgobchpnjgbdaa", sum := "9653fe4feff8c39cf7da5b1e5291483a5d6b6dca95b204a4c5148befd0aa8ac2", checked := Try.checked }
namespace Rows
def none {H : Type} : Left H := { results := [], args := [] }

/-- 'palletlaw04.HeapFull': WHATEVER THE INPUT: true; the input reads as it did. -/
def heapFullSpec : ChangeSpec := { name := "heapFull", fn := fun _ => fun
  | [d1, d2] => { results := [.lit (.bool true)], args := [d1, d2] }
  | _ => none }
def heapFullRow : OpenClaim := { program := "ytpgobchpnjgbdaa", sum := "9653fe4feff8c39cf7da5b1e5291483a5d6b6dca95b204a4c5148befd0aa8ac2", func := "pallet/palletlaw04.HeapFull", spec := "heapFull", apart := false }
def HeapFullSaid : Prop := heapFullRow.holds Try.pinned (OpenSpec.ofChange heapFullSpec)

/-- ITS FALSE NEIGHBOUR: 'it returns false'. Refute it at one input. -/
def heapFullWrong : ChangeSpec := { name := "heapFull", fn := fun _ => fun
  | [d1, d2] => { results := [.lit (.bool false)], args := [d1, d2] }
  | _ => none }
def HeapFullWrongFalsely : Prop := heapFullRow.holds Try.pinned (OpenSpec.ofChange heapFullWrong)

/-- 'palletlaw04.HeapOrders': WHATEVER THE INPUT: true; the input reads as it did. -/
def heapOrdersSpec : ChangeSpec := { name := "heapOrders", fn := fun _ => fun
  | [d1, d2] => { results := [.lit (.bool true)], args := [d1, d2] }
  | _ => none }
def heapOrdersRow : OpenClaim := { program := "ytpgobchpnjgbdaa", sum := "9653fe4feff8c39cf7da5b1e5291483a5d6b6dca95b204a4c5148befd0aa8ac2", func := "pallet/palletlaw04.HeapOrders", spec := "heapOrders", apart := false }
def HeapOrdersSaid : Prop := heapOrdersRow.holds Try.pinned (OpenSpec.ofChange heapOrdersSpec)

/-- ITS FALSE NEIGHBOUR: 'it returns false'. Refute it at one input. -/
def heapOrdersWrong : ChangeSpec := { name := "heapOrders", fn := fun _ => fun
  | [d1, d2] => { results := [.lit (.bool false)], args := [d1, d2] }
  | _ => none }
def HeapOrdersWrongFalsely : Prop := heapOrdersRow.holds Try.pinned (OpenSpec.ofChange heapOrdersWrong)

/-- 'palletlaw04.HeapDoes': WHATEVER THE INPUT: true; the input reads as it did. -/
def heapDoesSpec : ChangeSpec := { name := "heapDoes", fn := fun _ => fun
  | [d1, d2, d3, d4] => { results := [.lit (.bool true)], args := [d1, d2, d3, d4] }
  | _ => none }
def heapDoesRow : OpenClaim := { program := "ytpgobchpnjgbdaa", sum := "9653fe4feff8c39cf7da5b1e5291483a5d6b6dca95b204a4c5148befd0aa8ac2", func := "pallet/palletlaw04.HeapDoes", spec := "heapDoes", apart := false }
def HeapDoesSaid : Prop := heapDoesRow.holds Try.pinned (OpenSpec.ofChange heapDoesSpec)

/-- ITS FALSE NEIGHBOUR: 'it returns false'. Refute it at one input. -/
def heapDoesWrong : ChangeSpec := { name := "heapDoes", fn := fun _ => fun
  | [d1, d2, d3, d4] => { results := [.lit (.bool false)], args := [d1, d2, d3, d4] }
  | _ => none }
def HeapDoesWrongFalsely : Prop := heapDoesRow.holds Try.pinned (OpenSpec.ofChange heapDoesWrong)

/-- 'palletlaw04.HeapTakes': WHATEVER THE INPUT: true; the input reads as it did. -/
def heapTakesSpec : ChangeSpec := { name := "heapTakes", fn := fun _ => fun
  | [d1, d2] => { results := [.lit (.bool true)], args := [d1, d2] }
  | _ => none }
def heapTakesRow : OpenClaim := { program := "ytpgobchpnjgbdaa", sum := "9653fe4feff8c39cf7da5b1e5291483a5d6b6dca95b204a4c5148befd0aa8ac2", func := "pallet/palletlaw04.HeapTakes", spec := "heapTakes", apart := false }
def HeapTakesSaid : Prop := heapTakesRow.holds Try.pinned (OpenSpec.ofChange heapTakesSpec)

/-- ITS FALSE NEIGHBOUR: 'it returns false'. Refute it at one input. -/
def heapTakesWrong : ChangeSpec := { name := "heapTakes", fn := fun _ => fun
  | [d1, d2] => { results := [.lit (.bool false)], args := [d1, d2] }
  | _ => none }
def HeapTakesWrongFalsely : Prop := heapTakesRow.holds Try.pinned (OpenSpec.ofChange heapTakesWrong)

/-- 'palletlaw04.HeapMerges': WHATEVER THE INPUT: true; the input reads as it did. -/
def heapMergesSpec : ChangeSpec := { name := "heapMerges", fn := fun _ => fun
  | [d1, d2] => { results := [.lit (.bool true)], args := [d1, d2] }
  | _ => none }
def heapMergesRow : OpenClaim := { program := "ytpgobchpnjgbdaa", sum := "9653fe4feff8c39cf7da5b1e5291483a5d6b6dca95b204a4c5148befd0aa8ac2", func := "pallet/palletlaw04.HeapMerges", spec := "heapMerges", unfollowed := true, recurses := true, apart := false }
def HeapMergesSaid : Prop := heapMergesRow.holds Try.pinned (OpenSpec.ofChange heapMergesSpec)

/-- ITS FALSE NEIGHBOUR: 'it returns false'. Refute it at one input. -/
def heapMergesWrong : ChangeSpec := { name := "heapMerges", fn := fun _ => fun
  | [d1, d2] => { results := [.lit (.bool false)], args := [d1, d2] }
  | _ => none }
def HeapMergesWrongFalsely : Prop := heapMergesRow.holds Try.pinned (OpenSpec.ofChange heapMergesWrong)

/-- 'palletlaw04.HeapTells': WHATEVER THE INPUT: true; the input reads as it did. -/
def heapTellsSpec : ChangeSpec := { name := "heapTells", fn := fun _ => fun
  | [d1, d2, d3, d4] => { results := [.lit (.bool true)], args := [d1, d2, d3, d4] }
  | _ => none }
def heapTellsRow : OpenClaim := { program := "ytpgobchpnjgbdaa", sum := "9653fe4feff8c39cf7da5b1e5291483a5d6b6dca95b204a4c5148befd0aa8ac2", func := "pallet/palletlaw04.HeapTells", spec := "heapTells", unfollowed := true, recurses := true, apart := false }
def HeapTellsSaid : Prop := heapTellsRow.holds Try.pinned (OpenSpec.ofChange heapTellsSpec)

/-- ITS FALSE NEIGHBOUR: 'it returns false'. Refute it at one input. -/
def heapTellsWrong : ChangeSpec := { name := "heapTells", fn := fun _ => fun
  | [d1, d2, d3, d4] => { results := [.lit (.bool false)], args := [d1, d2, d3, d4] }
  | _ => none }
def HeapTellsWrongFalsely : Prop := heapTellsRow.holds Try.pinned (OpenSpec.ofChange heapTellsWrong)

/-- 'palletlaw05.KernelDoes': WHATEVER THE INPUT: true; the input reads as it did. -/
def kernelDoesSpec : ChangeSpec := { name := "kernelDoes", fn := fun _ => fun
  | [d1, d2, d3, d4, d5, d6, d7] => { results := [.lit (.bool true)], args := [d1, d2, d3, d4, d5, d6, d7] }
  | _ => none }
def kernelDoesRow : OpenClaim := { program := "ytpgobchpnjgbdaa", sum := "9653fe4feff8c39cf7da5b1e5291483a5d6b6dca95b204a4c5148befd0aa8ac2", func := "pallet/palletlaw05.KernelDoes", spec := "kernelDoes", unfollowed := true, recurses := true, apart := false }
def KernelDoesSaid : Prop := kernelDoesRow.holds Try.pinned (OpenSpec.ofChange kernelDoesSpec)

/-- ITS FALSE NEIGHBOUR: 'it returns false'. Refute it at one input. -/
def kernelDoesWrong : ChangeSpec := { name := "kernelDoes", fn := fun _ => fun
  | [d1, d2, d3, d4, d5, d6, d7] => { results := [.lit (.bool false)], args := [d1, d2, d3, d4, d5, d6, d7] }
  | _ => none }
def KernelDoesWrongFalsely : Prop := kernelDoesRow.holds Try.pinned (OpenSpec.ofChange kernelDoesWrong)

/-- 'palletlaw05.KernelOrders': WHATEVER THE INPUT: true; the input reads as it did. -/
def kernelOrdersSpec : ChangeSpec := { name := "kernelOrders", fn := fun _ => fun
  | [d1, d2] => { results := [.lit (.bool true)], args := [d1, d2] }
  | _ => none }
def kernelOrdersRow : OpenClaim := { program := "ytpgobchpnjgbdaa", sum := "9653fe4feff8c39cf7da5b1e5291483a5d6b6dca95b204a4c5148befd0aa8ac2", func := "pallet/palletlaw05.KernelOrders", spec := "kernelOrders", unfollowed := true, recurses := true, apart := false }
def KernelOrdersSaid : Prop := kernelOrdersRow.holds Try.pinned (OpenSpec.ofChange kernelOrdersSpec)

/-- ITS FALSE NEIGHBOUR: 'it returns false'. Refute it at one input. -/
def kernelOrdersWrong : ChangeSpec := { name := "kernelOrders", fn := fun _ => fun
  | [d1, d2] => { results := [.lit (.bool false)], args := [d1, d2] }
  | _ => none }
def KernelOrdersWrongFalsely : Prop := kernelOrdersRow.holds Try.pinned (OpenSpec.ofChange kernelOrdersWrong)

/-- 'palletlaw05.KernelTells': WHATEVER THE INPUT: true; the input reads as it did. -/
def kernelTellsSpec : ChangeSpec := { name := "kernelTells", fn := fun _ => fun
  | [d1, d2] => { results := [.lit (.bool true)], args := [d1, d2] }
  | _ => none }
def kernelTellsRow : OpenClaim := { program := "ytpgobchpnjgbdaa", sum := "9653fe4feff8c39cf7da5b1e5291483a5d6b6dca95b204a4c5148befd0aa8ac2", func := "pallet/palletlaw05.KernelTells", spec := "kernelTells", unfollowed := true, recurses := true, apart := false }
def KernelTellsSaid : Prop := kernelTellsRow.holds Try.pinned (OpenSpec.ofChange kernelTellsSpec)

/-- ITS FALSE NEIGHBOUR: 'it returns false'. Refute it at one input. -/
def kernelTellsWrong : ChangeSpec := { name := "kernelTells", fn := fun _ => fun
  | [d1, d2] => { results := [.lit (.bool false)], args := [d1, d2] }
  | _ => none }
def KernelTellsWrongFalsely : Prop := kernelTellsRow.holds Try.pinned (OpenSpec.ofChange kernelTellsWrong)

/-- 'palletlaw05.KernelTidy': WHATEVER THE INPUT: true; the input reads as it did. -/
def kernelTidySpec : ChangeSpec := { name := "kernelTidy", fn := fun _ => fun
  | [d1, d2, d3] => { results := [.lit (.bool true)], args := [d1, d2, d3] }
  | _ => none }
def kernelTidyRow : OpenClaim := { program := "ytpgobchpnjgbdaa", sum := "9653fe4feff8c39cf7da5b1e5291483a5d6b6dca95b204a4c5148befd0aa8ac2", func := "pallet/palletlaw05.KernelTidy", spec := "kernelTidy", unfollowed := true, recurses := true, apart := false }
def KernelTidySaid : Prop := kernelTidyRow.holds Try.pinned (OpenSpec.ofChange kernelTidySpec)

/-- ITS FALSE NEIGHBOUR: 'it returns false'. Refute it at one input. -/
def kernelTidyWrong : ChangeSpec := { name := "kernelTidy", fn := fun _ => fun
  | [d1, d2, d3] => { results := [.lit (.bool false)], args := [d1, d2, d3] }
  | _ => none }
def KernelTidyWrongFalsely : Prop := kernelTidyRow.holds Try.pinned (OpenSpec.ofChange kernelTidyWrong)

/-- 'palletlaw05.KernelBack': WHATEVER THE INPUT: true; the input reads as it did. -/
def kernelBackSpec : ChangeSpec := { name := "kernelBack", fn := fun _ => fun
  | [d1, d2, d3] => { results := [.lit (.bool true)], args := [d1, d2, d3] }
  | _ => none }
def kernelBackRow : OpenClaim := { program := "ytpgobchpnjgbdaa", sum := "9653fe4feff8c39cf7da5b1e5291483a5d6b6dca95b204a4c5148befd0aa8ac2", func := "pallet/palletlaw05.KernelBack", spec := "kernelBack", unfollowed := true, recurses := true, apart := false }
def KernelBackSaid : Prop := kernelBackRow.holds Try.pinned (OpenSpec.ofChange kernelBackSpec)

/-- ITS FALSE NEIGHBOUR: 'it returns false'. Refute it at one input. -/
def kernelBackWrong : ChangeSpec := { name := "kernelBack", fn := fun _ => fun
  | [d1, d2, d3] => { results := [.lit (.bool false)], args := [d1, d2, d3] }
  | _ => none }
def KernelBackWrongFalsely : Prop := kernelBackRow.holds Try.pinned (OpenSpec.ofChange kernelBackWrong)

/-- 'palletlaw05.KernelApart': WHATEVER THE INPUT: true; the input reads as it did. -/
def kernelApartSpec : ChangeSpec := { name := "kernelApart", fn := fun _ => fun
  | [d1, d2, d3, d4] => { results := [.lit (.bool true)], args := [d1, d2, d3, d4] }
  | _ => none }
def kernelApartRow : OpenClaim := { program := "ytpgobchpnjgbdaa", sum := "9653fe4feff8c39cf7da5b1e5291483a5d6b6dca95b204a4c5148befd0aa8ac2", func := "pallet/palletlaw05.KernelApart", spec := "kernelApart", unfollowed := true, recurses := true, apart := false }
def KernelApartSaid : Prop := kernelApartRow.holds Try.pinned (OpenSpec.ofChange kernelApartSpec)

/-- ITS FALSE NEIGHBOUR: 'it returns false'. Refute it at one input. -/
def kernelApartWrong : ChangeSpec := { name := "kernelApart", fn := fun _ => fun
  | [d1, d2, d3, d4] => { results := [.lit (.bool false)], args := [d1, d2, d3, d4] }
  | _ => none }
def KernelApartWrongFalsely : Prop := kernelApartRow.holds Try.pinned (OpenSpec.ofChange kernelApartWrong)

/- THE SECOND FORM. 'bulk': how many values and letters a reading holds, each counted each time it is reached (what is shared counts as often as it is met; a slice's spare places count too). A statement '..UptoSaid' is the law's where the arguments, and the package variables that the reading takes, are together of bulk at most 1048576: NARROWER than '..Said'. Prove '..Said' where nothing that the law and all that it calls make is longer than what came in: it says more and counts as full. Else prove '..UptoSaid'. A law counts once. -/
mutual
def uptoBulk {H : Type} : DataW H → Nat
  | .lit (.string bytes) => bytes.length + 1
  | .lit _ => 1
  | .nil => 1
  | .ptr d => uptoBulk d + 1
  | .slice elems spare => uptoBulkAll elems + uptoBulkAll spare + 1
  | .agg parts => uptoBulkAll parts + 1
  | .iface _ d => uptoBulk d + 1
  | .map entries => uptoBulkEntries entries + 1
  | .held _ => 1
def uptoBulkAll {H : Type} : List (DataW H) → Nat
  | [] => 0
  | d :: r => uptoBulk d + uptoBulkAll r
def uptoBulkEntries {H : Type} : List (Lit × DataW H) → Nat
  | [] => 0
  | x :: r => uptoBulkEntry x + uptoBulkEntries r
def uptoBulkEntry {H : Type} : Lit × DataW H → Nat
  | (.string bytes, d) => bytes.length + uptoBulk d + 1
  | (_, d) => uptoBulk d + 1
 end
def uptoSmall : (H : Type) → List (DataW H) → Bool := fun _ ds => decide (uptoBulkAll ds ≤ 1048576)
def OpenSpec.upto (s : _root_.Go.ChangeSpec) : _root_.Go.OpenSpec := { _root_.Go.OpenSpec.ofChange s with cond := some uptoSmall }

/-- 'palletlaw04.HeapFull', WHERE WHAT IT READS IS OF BULK AT MOST 1048576: true; the input reads as it did. -/
def heapFullUptoRow : OpenClaim := { program := "ytpgobchpnjgbdaa", sum := "9653fe4feff8c39cf7da5b1e5291483a5d6b6dca95b204a4c5148befd0aa8ac2", func := "pallet/palletlaw04.HeapFull", spec := "heapFull", apart := false, narrowed := true }
def HeapFullUptoSaid : Prop := heapFullUptoRow.holds Try.pinned (OpenSpec.upto heapFullSpec)

/-- 'palletlaw04.HeapOrders', WHERE WHAT IT READS IS OF BULK AT MOST 1048576: true; the input reads as it did. -/
def heapOrdersUptoRow : OpenClaim := { program := "ytpgobchpnjgbdaa", sum := "9653fe4feff8c39cf7da5b1e5291483a5d6b6dca95b204a4c5148befd0aa8ac2", func := "pallet/palletlaw04.HeapOrders", spec := "heapOrders", apart := false, narrowed := true }
def HeapOrdersUptoSaid : Prop := heapOrdersUptoRow.holds Try.pinned (OpenSpec.upto heapOrdersSpec)

/-- 'palletlaw04.HeapDoes', WHERE WHAT IT READS IS OF BULK AT MOST 1048576: true; the input reads as it did. -/
def heapDoesUptoRow : OpenClaim := { program := "ytpgobchpnjgbdaa", sum := "9653fe4feff8c39cf7da5b1e5291483a5d6b6dca95b204a4c5148befd0aa8ac2", func := "pallet/palletlaw04.HeapDoes", spec := "heapDoes", apart := false, narrowed := true }
def HeapDoesUptoSaid : Prop := heapDoesUptoRow.holds Try.pinned (OpenSpec.upto heapDoesSpec)

/-- 'palletlaw04.HeapTakes', WHERE WHAT IT READS IS OF BULK AT MOST 1048576: true; the input reads as it did. -/
def heapTakesUptoRow : OpenClaim := { program := "ytpgobchpnjgbdaa", sum := "9653fe4feff8c39cf7da5b1e5291483a5d6b6dca95b204a4c5148befd0aa8ac2", func := "pallet/palletlaw04.HeapTakes", spec := "heapTakes", apart := false, narrowed := true }
def HeapTakesUptoSaid : Prop := heapTakesUptoRow.holds Try.pinned (OpenSpec.upto heapTakesSpec)

/-- 'palletlaw04.HeapMerges', WHERE WHAT IT READS IS OF BULK AT MOST 1048576: true; the input reads as it did. -/
def heapMergesUptoRow : OpenClaim := { program := "ytpgobchpnjgbdaa", sum := "9653fe4feff8c39cf7da5b1e5291483a5d6b6dca95b204a4c5148befd0aa8ac2", func := "pallet/palletlaw04.HeapMerges", spec := "heapMerges", unfollowed := true, recurses := true, apart := false, narrowed := true }
def HeapMergesUptoSaid : Prop := heapMergesUptoRow.holds Try.pinned (OpenSpec.upto heapMergesSpec)

/-- 'palletlaw04.HeapTells', WHERE WHAT IT READS IS OF BULK AT MOST 1048576: true; the input reads as it did. -/
def heapTellsUptoRow : OpenClaim := { program := "ytpgobchpnjgbdaa", sum := "9653fe4feff8c39cf7da5b1e5291483a5d6b6dca95b204a4c5148befd0aa8ac2", func := "pallet/palletlaw04.HeapTells", spec := "heapTells", unfollowed := true, recurses := true, apart := false, narrowed := true }
def HeapTellsUptoSaid : Prop := heapTellsUptoRow.holds Try.pinned (OpenSpec.upto heapTellsSpec)

/-- 'palletlaw05.KernelDoes', WHERE WHAT IT READS IS OF BULK AT MOST 1048576: true; the input reads as it did. -/
def kernelDoesUptoRow : OpenClaim := { program := "ytpgobchpnjgbdaa", sum := "9653fe4feff8c39cf7da5b1e5291483a5d6b6dca95b204a4c5148befd0aa8ac2", func := "pallet/palletlaw05.KernelDoes", spec := "kernelDoes", unfollowed := true, recurses := true, apart := false, narrowed := true }
def KernelDoesUptoSaid : Prop := kernelDoesUptoRow.holds Try.pinned (OpenSpec.upto kernelDoesSpec)

/-- 'palletlaw05.KernelOrders', WHERE WHAT IT READS IS OF BULK AT MOST 1048576: true; the input reads as it did. -/
def kernelOrdersUptoRow : OpenClaim := { program := "ytpgobchpnjgbdaa", sum := "9653fe4feff8c39cf7da5b1e5291483a5d6b6dca95b204a4c5148befd0aa8ac2", func := "pallet/palletlaw05.KernelOrders", spec := "kernelOrders", unfollowed := true, recurses := true, apart := false, narrowed := true }
def KernelOrdersUptoSaid : Prop := kernelOrdersUptoRow.holds Try.pinned (OpenSpec.upto kernelOrdersSpec)

/-- 'palletlaw05.KernelTells', WHERE WHAT IT READS IS OF BULK AT MOST 1048576: true; the input reads as it did. -/
def kernelTellsUptoRow : OpenClaim := { program := "ytpgobchpnjgbdaa", sum := "9653fe4feff8c39cf7da5b1e5291483a5d6b6dca95b204a4c5148befd0aa8ac2", func := "pallet/palletlaw05.KernelTells", spec := "kernelTells", unfollowed := true, recurses := true, apart := false, narrowed := true }
def KernelTellsUptoSaid : Prop := kernelTellsUptoRow.holds Try.pinned (OpenSpec.upto kernelTellsSpec)

/-- 'palletlaw05.KernelTidy', WHERE WHAT IT READS IS OF BULK AT MOST 1048576: true; the input reads as it did. -/
def kernelTidyUptoRow : OpenClaim := { program := "ytpgobchpnjgbdaa", sum := "9653fe4feff8c39cf7da5b1e5291483a5d6b6dca95b204a4c5148befd0aa8ac2", func := "pallet/palletlaw05.KernelTidy", spec := "kernelTidy", unfollowed := true, recurses := true, apart := false, narrowed := true }
def KernelTidyUptoSaid : Prop := kernelTidyUptoRow.holds Try.pinned (OpenSpec.upto kernelTidySpec)

/-- 'palletlaw05.KernelBack', WHERE WHAT IT READS IS OF BULK AT MOST 1048576: true; the input reads as it did. -/
def kernelBackUptoRow : OpenClaim := { program := "ytpgobchpnjgbdaa", sum := "9653fe4feff8c39cf7da5b1e5291483a5d6b6dca95b204a4c5148befd0aa8ac2", func := "pallet/palletlaw05.KernelBack", spec := "kernelBack", unfollowed := true, recurses := true, apart := false, narrowed := true }
def KernelBackUptoSaid : Prop := kernelBackUptoRow.holds Try.pinned (OpenSpec.upto kernelBackSpec)

/-- 'palletlaw05.KernelApart', WHERE WHAT IT READS IS OF BULK AT MOST 1048576: true; the input reads as it did. -/
def kernelApartUptoRow : OpenClaim := { program := "ytpgobchpnjgbdaa", sum := "9653fe4feff8c39cf7da5b1e5291483a5d6b6dca95b204a4c5148befd0aa8ac2", func := "pallet/palletlaw05.KernelApart", spec := "kernelApart", unfollowed := true, recurses := true, apart := false, narrowed := true }
def KernelApartUptoSaid : Prop := kernelApartUptoRow.holds Try.pinned (OpenSpec.upto kernelApartSpec)

end Rows
end Go.Proofs.Ytpgobchpnjgbdaa
