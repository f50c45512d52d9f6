/- LexRemarks answers true, whatever it is handed. -/
import Derived.Lay
import Derived.ProofKit
import Derived.Test.YtlmjhpnmfmnmgaaDoorTie
import Derived.Test.YtlmjhpnmfmnmgaaDoorCards
import Derived.Test.YtlmjhpnmfmnmgaaDoorLexN12
namespace Go.Det.C
open Go Go.Det Go.Proofs
set_option maxRecDepth 4000
set_option linter.unusedVariables false
theorem str_arg {H : DH} {d : DV} (h : TArg Tryd.prog H 9 d) : ∃ s, d = .str s ∧ s.length ≤ maxLen := by
  have h1 := targ_one (t := 9) (fun fs e => by cases e) (fun n e e' => by cases e') h
  obtain ⟨s, e, hl⟩ := typed_str rfl h1
  cases e
  exact ⟨s, rfl, hl⟩
theorem u8_arg {H : DH} {d : DV} (h : TArg Tryd.prog H 5 d) : ∃ n, d = .int .u8 n ∧ 0 ≤ n ∧ n ≤ 255 := by
  have h1 := targ_one (t := 5) (fun fs e => by cases e) (fun n e e' => by cases e') h
  obtain ⟨n, e, hl⟩ := typed_int rfl h1
  cases e
  refine ⟨n, rfl, ?_⟩
  simp [Lit.wf, IntKind.min, IntKind.max, IntKind.signed, IntKind.bits] at hl
  omega
theorem row6 (H : DH) (hr : RO H) (hw : WF H) (xs : List DV) (hx : TArgs Tryd.prog H [9, 9, 5] xs) : CallWp Tryd.prog X3 6 xs H (fun r _ => r = .bool true) := by
  match xs, hx with
  | [a, b, c], ⟨h1, h2, h3, _⟩ =>
    obtain ⟨s, rfl, _⟩ := str_arg h1
    obtain ⟨t, rfl, _⟩ := str_arg h2
    obtain ⟨n, rfl, hn⟩ := u8_arg h3
    exact remarks6 s t n hn (Bx.init (fun f hf => by cases hf))
end Go.Det.C
namespace Go.Proofs.YtlmjhpnmfmnmgaaDoor.lexRemarks
open Go Go.Det Go.Det.C Go.ChangeShapes Go.WideShapes Go.ChangeAt Go.RowKit
set_option linter.unusedVariables false
theorem own : ownKnob Tryd.prog.godebug = none := by kernel_rfl
theorem laidOut : laidOutB Tryd.prog = true := by kernel_rfl
set_option maxRecDepth 100000 in
theorem lifted (os : Os) (started : os.Started) (H : Type) (enc : TypeId × Value → H) :
    ReturnsInHanded {} Tryd.checked os 6 .any (fun w args => (Rows.lexRemarksSpec.pre enc Tryd.prog Tryd.f6 Rows.lexRemarksRow.domain false w args ∧ laidMetH Tryd.prog Rows.lexRemarksRow.laid w) ∧ sizedMet enc Tryd.prog Tryd.f6 (OpenSpec.ofChange Rows.lexRemarksSpec) false w args) (Rows.lexRemarksSpec.post enc Tryd.prog Tryd.f6 false true false false) := by
  exact row_lawL (C := Tryd.checked) (ts := [9, 9, 5]) (rt := 4) (n := 5) (Y := fun w _ => laidMetH Tryd.prog Rows.lexRemarksRow.laid w) (fun _ _ _ hh h => h.of_heap hh) own started (by kernel_rfl) Tryd.func6
    (ChangeSpec.witness_shaped (enc := enc) (C := Tryd.checked) (os := os) (X := fun w _ => laidMetH Tryd.prog Rows.lexRemarksRow.laid w) false (World.laidAll Tryd.prog os Rows.lexRemarksRow.laid) #[.string ⟨#[]⟩, .string ⟨#[]⟩, .int .u8 0] 8 (World.laidAll_os _ _ _)
      (World.shaped_of_ZipB (by kernel_rfl) (by kernel_rfl)) (by kernel_rfl) (by kernel_rfl) (by kernel_rfl)
      (by rw [MakeChecks.laidMetH_plain _ _ _ (by kernel_rfl)]; exact laidMet_laidAll _ (by kernel_rfl) (by kernel_rfl)))
    Tryd.params6 rfl Tryd.underlying4 (by kernel_rfl) (by kernel_rfl) laidOut rfl
    (by intro ds h; match ds, h with | [_, _, _], _ => rfl)
    (fun H xs hr hw hx ρ w vs ha hv => calls_cd ok3 Tryd.func6 rfl rfl (row6 H hr hw xs hx) ρ w vs ha hv)
theorem over : Rows.lexRemarksRow.holds Tryd.pinned (OpenSpec.ofChange Rows.lexRemarksSpec) :=
  OpenClaim.holds_of_wide 6 Tryd.f6 rfl rfl rfl rfl rfl rfl rfl ⟨rfl, rfl, rfl, rfl, rfl⟩ rfl rfl rfl rfl rfl (by kernel_rfl) Tryd.func6 (by kernel_rfl)
    (of_decide_eq_true (by kernel_rfl)) (by unfold Func.isWrapper; first | (rw [if_pos (by decide +kernel)]; kernel_rfl) | (rw [if_neg (by decide +kernel)]; exact ⟨rfl, rfl⟩))
    (fun os started H enc _ => lifted os started H enc)
end Go.Proofs.YtlmjhpnmfmnmgaaDoor.lexRemarks

/- LexNumbers answers true, whatever it is handed: a number is cut as it is, also with noughts ahead, and of a unit. -/
namespace Go.Det.C
open Go Go.Det Go.Proofs
set_option maxRecDepth 4000
set_option linter.unusedVariables false
theorem i32_arg {H : DH} {d : DV} (h : TArg Tryd.prog H 21 d) : ∃ n, d = .int .i32 n ∧ -2147483648 ≤ n ∧ n < 2147483648 := by
  have h1 := targ_one (t := 21) (fun fs e => by cases e) (fun n e e' => by cases e') h
  obtain ⟨n, e, hl⟩ := typed_int rfl h1
  cases e
  refine ⟨n, rfl, ?_⟩
  simp [Lit.wf, IntKind.min, IntKind.max, IntKind.signed, IntKind.bits] at hl
  omega
theorem row8 (H : DH) (hr : RO H) (hw : WF H) (xs : List DV) (hx : TArgs Tryd.prog H [21, 5] xs) : CallWp Tryd.prog X3 8 xs H (fun r _ => r = .bool true) := by
  match xs, hx with
  | [a, b], ⟨h1, h2, _⟩ =>
    obtain ⟨n, rfl, hn⟩ := i32_arg h1
    obtain ⟨m, rfl, hm⟩ := u8_arg h2
    exact numbers8 n m hn hm (Bx.init (fun f hf => by cases hf))
end Go.Det.C
namespace Go.Proofs.YtlmjhpnmfmnmgaaDoor.lexNumbers
open Go Go.Det Go.Det.C Go.ChangeShapes Go.WideShapes Go.ChangeAt Go.RowKit
set_option linter.unusedVariables false
theorem own : ownKnob Tryd.prog.godebug = none := by kernel_rfl
theorem laidOut : laidOutB Tryd.prog = true := by kernel_rfl
set_option maxRecDepth 100000 in
theorem lifted (os : Os) (started : os.Started) (H : Type) (enc : TypeId × Value → H) :
    ReturnsInHanded {} Tryd.checked os 8 .any (fun w args => (Rows.lexNumbersSpec.pre enc Tryd.prog Tryd.f8 Rows.lexNumbersRow.domain false w args ∧ laidMetH Tryd.prog Rows.lexNumbersRow.laid w) ∧ sizedMet enc Tryd.prog Tryd.f8 (OpenSpec.ofChange Rows.lexNumbersSpec) false w args) (Rows.lexNumbersSpec.post enc Tryd.prog Tryd.f8 false true false false) := by
  exact row_lawL (C := Tryd.checked) (ts := [21, 5]) (rt := 4) (n := 5) (Y := fun w _ => laidMetH Tryd.prog Rows.lexNumbersRow.laid w) (fun _ _ _ hh h => h.of_heap hh) own started (by kernel_rfl) Tryd.func8
    (ChangeSpec.witness_shaped (enc := enc) (C := Tryd.checked) (os := os) (X := fun w _ => laidMetH Tryd.prog Rows.lexNumbersRow.laid w) false (World.laidAll Tryd.prog os Rows.lexNumbersRow.laid) #[.int .i32 0, .int .u8 0] 8 (World.laidAll_os _ _ _)
      (World.shaped_of_ZipB (by kernel_rfl) (by kernel_rfl)) (by kernel_rfl) (by kernel_rfl) (by kernel_rfl)
      (by rw [MakeChecks.laidMetH_plain _ _ _ (by kernel_rfl)]; exact laidMet_laidAll _ (by kernel_rfl) (by kernel_rfl)))
    Tryd.params8 rfl Tryd.underlying4 (by kernel_rfl) (by kernel_rfl) laidOut rfl
    (by intro ds h; match ds, h with | [_, _], _ => rfl)
    (fun H xs hr hw hx ρ w vs ha hv => calls_cd ok3 Tryd.func8 rfl rfl (row8 H hr hw xs hx) ρ w vs ha hv)
theorem over : Rows.lexNumbersRow.holds Tryd.pinned (OpenSpec.ofChange Rows.lexNumbersSpec) :=
  OpenClaim.holds_of_wide 8 Tryd.f8 rfl rfl rfl rfl rfl rfl rfl ⟨rfl, rfl, rfl, rfl, rfl⟩ rfl rfl rfl rfl rfl (by kernel_rfl) Tryd.func8 (by kernel_rfl)
    (of_decide_eq_true (by kernel_rfl)) (by unfold Func.isWrapper; first | (rw [if_pos (by decide +kernel)]; kernel_rfl) | (rw [if_neg (by decide +kernel)]; exact ⟨rfl, rfl⟩))
    (fun os started H enc _ => lifted os started H enc)
end Go.Proofs.YtlmjhpnmfmnmgaaDoor.lexNumbers
namespace Go.Proofs.YtlmjhpnmfmnmgaaDoor
open Go
theorem lexNumbersCard_holds : Rows.LexNumbersCardSaid :=
  Claim7.holds_tied_plain_at .later [] [.data, .pinned] true (true, "fca51c1127abe396201119b1a65a5416d6d9d503135c32425230788a095605eb") false
    lexNumbers.over (fun _ h => by cases h) (by kernel_rfl) (fun _ h => by cases h) lexNumbers_row_tie rfl ⟨rfl, rfl⟩ (by kernel_rfl) rfl
    (fun f fn hf hfn => by
      obtain rfl : f = 8 := Option.some.inj ((show Tryd.prog.funcNamed "pallet/palletlaw14.LexNumbers" = some 8 by kernel_rfl).symm.trans hf) |>.symm
      obtain rfl : fn = Tryd.f8 := (Option.some.inj (Tryd.func8.symm.trans hfn)).symm
      exact ⟨by kernel_rfl, fun j t ht => by
        rw [Tryd.params8] at ht
        have hm : t ∈ [21, 5] := by simpa using Array.mem_of_getElem? ht
        have hall : ([21, 5].all fun u => !Tryd.prog.wantsStandIn u) = true := by kernel_rfl
        exact (show Tryd.prog.wantsStandIn t = false by simpa using List.all_eq_true.1 hall t hm)⟩)
    (by kernel_rfl)
#print axioms lexNumbersCard_holds
end Go.Proofs.YtlmjhpnmfmnmgaaDoor
