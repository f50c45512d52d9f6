/- HeapTotal: the row. -/
import Derived.Test.YtphnddoneocfhaaH2
namespace Go.Proofs.Ytphnddoneocfhaa.heapTotal
open Go Go.Det Go.Det.H04 Go.ChangeShapes Go.WideShapes Go.ChangeAt Go.RowKit
set_option linter.unusedVariables false
set_option linter.unusedSimpArgs false
theorem own : ownKnob Try.prog.godebug = none := by kernel_rfl
theorem laidOut : laidOutB Try.prog = true := by kernel_rfl
set_option maxRecDepth 100000 in
theorem lifted (os : Os) (started : os.Started) (H : Type) (enc : TypeId × Value → H) :
    ReturnsInHanded {} Try.checked os 5 .any (Rows.heapTotalSpec.pre6 enc Try.prog Try.f5 Rows.heapTotalRow.domain false) (Rows.heapTotalSpec.post enc Try.prog Try.f5 false true false false) := by
  exact row_true (C := Try.checked) (X := X3) (ts := [38, 38, 38]) (rt := 4) (n := 5) own started (by kernel_rfl) Try.func5
    (ChangeSpec.witness6 (enc := enc) (C := Try.checked) false ⟨#[], #[.agg #[.int .i64 0, .int .i64 0, .int .u64 0, .int .i64 0, .int .i64 0, .int .u64 0], .agg #[.int .i64 0, .int .i64 0, .int .u64 0, .int .i64 0, .int .i64 0, .int .u64 0], .agg #[.int .i64 0, .int .i64 0, .int .u64 0, .int .i64 0, .int .i64 0, .int .u64 0]], []⟩ 8 (by kernel_rfl) (by kernel_rfl) (by kernel_rfl) (by kernel_rfl))
    rfl ok3 rfl Try.params5 rfl Try.underlying4 (by kernel_rfl) (by kernel_rfl) laidOut rfl
    (by intro ds h; match ds, h with | [_, _, _], _ => rfl)
    (fun H xs _ hx => law5 H xs hx)
theorem over : Rows.heapTotalRow.holds Try.pinned (OpenSpec.ofChange Rows.heapTotalSpec) :=
  OpenClaim.holds_of_wide 5 Try.f5 rfl rfl rfl rfl rfl rfl rfl ⟨rfl, rfl, rfl, rfl, rfl⟩ rfl rfl rfl rfl rfl (by kernel_rfl) Try.func5 (by kernel_rfl)
    (of_decide_eq_true (by kernel_rfl)) (by unfold Func.isWrapper; first | (rw [if_pos (by decide +kernel)]; kernel_rfl) | (rw [if_neg (by decide +kernel)]; exact ⟨rfl, rfl⟩))
    (fun os started H enc _ => lifted os started H enc)
theorem proved : Rows.HeapTotalSaid := over
end Go.Proofs.Ytphnddoneocfhaa.heapTotal
namespace Go.Proofs.Ytphnddoneocfhaa
/-- The row, under a short name, for the claim. -/
theorem heapTotal_holds : Rows.HeapTotalSaid := heapTotal.proved
#print axioms heapTotal_holds
end Go.Proofs.Ytphnddoneocfhaa
