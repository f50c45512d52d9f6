/- MediumArrives answers true, whatever it is handed; nothing is asked of the arguments but their types. -/
import Derived.Test.YtphnddoneocfhaaF10
namespace Go.Proofs.Ytphnddoneocfhaa.mediumArrives
open Go Go.Det Go.Det.M11 Go.ChangeShapes Go.WideShapes Go.ChangeAt Go.RowKit
set_option linter.unusedVariables false
set_option linter.unusedSimpArgs false
theorem own : ownKnob Try.prog.godebug = none := by kernel_rfl
theorem laidOut : laidOutB Try.prog = true := by kernel_rfl
set_option maxRecDepth 100000 in
theorem lifted (os : Os) (started : os.Started) (H : Type) (enc : TypeId × Value → H) :
    ReturnsInHanded {} Try.checked os 8 .any (Rows.mediumArrivesSpec.pre6 enc Try.prog Try.f8 Rows.mediumArrivesRow.domain false) (Rows.mediumArrivesSpec.post enc Try.prog Try.f8 false true false false) := by
  exact row_law (C := Try.checked) (X := X4) (ts := [28, 3, 3, 51]) (rt := 4) (n := 5) own started (by kernel_rfl) Try.func8
    (ChangeSpec.witness6 (enc := enc) (C := Try.checked) false ⟨#[], #[.agg #[.int .u64 0, .int .i64 0, .int .i64 0, .int .i64 0, .int .i64 0, .slice none 0 0, .bool false, .int .i64 0], .int .i64 0, .int .i64 0, .slice none 0 0], []⟩ 8 (by kernel_rfl) (by kernel_rfl) (by kernel_rfl) (by kernel_rfl))
    rfl ok4 rfl Try.params8 rfl Try.underlying4 (by kernel_rfl) (by kernel_rfl) laidOut rfl
    (by intro ds h; match ds, h with | [_, _, _, _], _ => rfl)
    (fun H xs hr hw hx => row8 H hr hw xs hx)
theorem over : Rows.mediumArrivesRow.holds Try.pinned (OpenSpec.ofChange Rows.mediumArrivesSpec) :=
  OpenClaim.holds_of_wide 8 Try.f8 rfl rfl rfl rfl rfl rfl rfl ⟨rfl, rfl, rfl, rfl, rfl⟩ rfl rfl rfl rfl rfl (by kernel_rfl) Try.func8 (by kernel_rfl)
    (of_decide_eq_true (by kernel_rfl)) (by unfold Func.isWrapper; first | (rw [if_pos (by decide +kernel)]; kernel_rfl) | (rw [if_neg (by decide +kernel)]; exact ⟨rfl, rfl⟩))
    (fun os started H enc _ => lifted os started H enc)
theorem proved : Rows.MediumArrivesSaid := over
end Go.Proofs.Ytphnddoneocfhaa.mediumArrives
namespace Go.Proofs.Ytphnddoneocfhaa
/-- The row, under a short name, for the claim. -/
theorem mediumArrives_holds : Rows.MediumArrivesSaid := mediumArrives.proved
#print axioms mediumArrives_holds
end Go.Proofs.Ytphnddoneocfhaa
