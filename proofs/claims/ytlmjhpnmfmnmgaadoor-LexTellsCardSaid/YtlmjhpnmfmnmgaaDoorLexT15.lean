/- LexRemarks answers true, whatever it is handed. -/
import Derived.Lay
import Derived.ProofKit
import Derived.Test.YtlmjhpnmfmnmgaaDoorTie
import Derived.Test.YtlmjhpnmfmnmgaaDoorCards
import Derived.Test.YtlmjhpnmfmnmgaaDoorLexT14
namespace Go.Det.C
open Go Go.Det Go.Proofs
set_option maxRecDepth 4000
set_option linter.unusedVariables false
theorem str_arg {H : DH} {d : DV} (h : TArg Tryd.prog H 9 d) : ∃ s, d = .str s ∧ s.length ≤ maxLen := by
  have h1 := targ_one (t := 9) (fun fs e => by cases e) (fun n e e' => by cases e') h
  obtain ⟨s, e, hl⟩ := typed_str rfl h1
  cases e
  exact ⟨s, rfl, hl⟩
theorem u8_arg {H : DH} {d : DV} (h : TArg Tryd.prog H 5 d) : ∃ n, d = .int .u8 n ∧ 0 ≤ n ∧ n ≤ 255 := by
  have h1 := targ_one (t := 5) (fun fs e => by cases e) (fun n e e' => by cases e') h
  obtain ⟨n, e, hl⟩ := typed_int rfl h1
  cases e
  refine ⟨n, rfl, ?_⟩
  simp [Lit.wf, IntKind.min, IntKind.max, IntKind.signed, IntKind.bits] at hl
  omega
theorem row6 (H : DH) (hr : RO H) (hw : WF H) (xs : List DV) (hx : TArgs Tryd.prog H [9, 9, 5] xs) : CallWp Tryd.prog X3 6 xs H (fun r _ => r = .bool true) := by
  match xs, hx with
  | [a, b, c], ⟨h1, h2, h3, _⟩ =>
    obtain ⟨s, rfl, _⟩ := str_arg h1
    obtain ⟨t, rfl, _⟩ := str_arg h2
    obtain ⟨n, rfl, hn⟩ := u8_arg h3
    exact remarks6 s t n hn (Bx.init (fun f hf => by cases hf))
end Go.Det.C
namespace Go.Proofs.YtlmjhpnmfmnmgaaDoor.lexRemarks
open Go Go.Det Go.Det.C Go.ChangeShapes Go.WideShapes Go.ChangeAt Go.RowKit
set_option linter.unusedVariables false
theorem own : ownKnob Tryd.prog.godebug = none := by kernel_rfl
theorem laidOut : laidOutB Tryd.prog = true := by kernel_rfl
set_option maxRecDepth 100000 in
theorem lifted (os : Os) (started : os.Started) (H : Type) (enc : TypeId × Value → H) :
    ReturnsInHanded {} Tryd.checked os 6 .any (fun w args => (Rows.lexRemarksSpec.pre enc Tryd.prog Tryd.f6 Rows.lexRemarksRow.domain false w args ∧ laidMetH Tryd.prog Rows.lexRemarksRow.laid w) ∧ sizedMet enc Tryd.prog Tryd.f6 (OpenSpec.ofChange Rows.lexRemarksSpec) false w args) (Rows.lexRemarksSpec.post enc Tryd.prog Tryd.f6 false true false false) := by
  exact row_lawL (C := Tryd.checked) (ts := [9, 9, 5]) (rt := 4) (n := 5) (Y := fun w _ => laidMetH Tryd.prog Rows.lexRemarksRow.laid w) (fun _ _ _ hh h => h.of_heap hh) own started (by kernel_rfl) Tryd.func6
    (ChangeSpec.witness_shaped (enc := enc) (C := Tryd.checked) (os := os) (X := fun w _ => laidMetH Tryd.prog Rows.lexRemarksRow.laid w) false (World.laidAll Tryd.prog os Rows.lexRemarksRow.laid) #[.string ⟨#[]⟩, .string ⟨#[]⟩, .int .u8 0] 8 (World.laidAll_os _ _ _)
      (World.shaped_of_ZipB (by kernel_rfl) (by kernel_rfl)) (by kernel_rfl) (by kernel_rfl) (by kernel_rfl)
      (by rw [MakeChecks.laidMetH_plain _ _ _ (by kernel_rfl)]; exact laidMet_laidAll _ (by kernel_rfl) (by kernel_rfl)))
    Tryd.params6 rfl Tryd.underlying4 (by kernel_rfl) (by kernel_rfl) laidOut rfl
    (by intro ds h; match ds, h with | [_, _, _], _ => rfl)
    (fun H xs hr hw hx ρ w vs ha hv => calls_cd ok3 Tryd.func6 rfl rfl (row6 H hr hw xs hx) ρ w vs ha hv)
theorem over : Rows.lexRemarksRow.holds Tryd.pinned (OpenSpec.ofChange Rows.lexRemarksSpec) :=
  OpenClaim.holds_of_wide 6 Tryd.f6 rfl rfl rfl rfl rfl rfl rfl ⟨rfl, rfl, rfl, rfl, rfl⟩ rfl rfl rfl rfl rfl (by kernel_rfl) Tryd.func6 (by kernel_rfl)
    (of_decide_eq_true (by kernel_rfl)) (by unfold Func.isWrapper; first | (rw [if_pos (by decide +kernel)]; kernel_rfl) | (rw [if_neg (by decide +kernel)]; exact ⟨rfl, rfl⟩))
    (fun os started H enc _ => lifted os started H enc)
end Go.Proofs.YtlmjhpnmfmnmgaaDoor.lexRemarks

/- LexTells answers true, whatever it is handed: any token's text, several ones', whether a text is a word, and any byte's place are as the document says. -/
namespace Go.Det.C
open Go Go.Det Go.Proofs Go.Lib Go.RowKit
set_option maxRecDepth 4000
set_option linter.unusedVariables false
theorem len4 {α : Type} {l : List α} (h : l.length = 4) : ∃ a b c d, l = [a, b, c, d] := by
  match l, h with
  | [a, b, c, d], _ => exact ⟨a, b, c, d, rfl⟩
theorem tok_in {H : DH} {cs : List DV} (h : Typed Tryd.prog H 57 cs) : ∃ x : Tok, cs = x.row := by
  obtain ⟨h1, h2⟩ := typed_struct (fs := _) Tryd.underlying57 h
  have hsz : Tryd.prog.cellsOf 57 = 4 := by kernel_rfl
  have c3 : Tryd.prog.cellsOf 3 = 1 := by kernel_rfl
  have c9 : Tryd.prog.cellsOf 9 = 1 := by kernel_rfl
  have c2 : Tryd.prog.cellsOf 2 = 1 := by kernel_rfl
  have c4 : Tryd.prog.cellsOf 4 = 1 := by kernel_rfl
  rw [hsz] at h1
  obtain ⟨x0, x1, x2, x3, rfl⟩ := len4 h1
  simp only [List.forall_mem_cons, c2, c3, c9, c4, List.drop_zero, List.drop_succ_cons, List.take_succ_cons, List.take_zero] at h2
  obtain ⟨t0, t1, t2, t3, _⟩ := h2
  obtain ⟨a, e0, _⟩ := typed_int Tryd.underlying3 t0
  obtain ⟨b, e1, _⟩ := typed_str Tryd.underlying9 t1
  obtain ⟨c, e2, _⟩ := typed_int Tryd.underlying2 t2
  obtain ⟨d, e3⟩ := typed_bool Tryd.underlying4 t3
  cases e0; cases e1; cases e2; cases e3
  exact ⟨⟨a, b, c, d⟩, rfl⟩
theorem toks_rows {H : DH} : ∀ (rs : List (List DV)), (∀ r ∈ rs, Typed Tryd.prog H 57 r) → ∃ l : List Tok, rs = l.map Tok.row
  | [], _ => ⟨[], rfl⟩
  | r :: rs, h => by
    obtain ⟨x, hx⟩ := tok_in (h r (by simp))
    obtain ⟨l, hl⟩ := toks_rows rs fun r' hr => h r' (by simp [hr])
    exact ⟨x :: l, by rw [hx, hl]; rfl⟩
theorem toks_arg {H : DH} (hw : WF H) {d : DV} (h : TArg Tryd.prog H 46 d) : ∃ p c ex, ∃ l : List Tok, d = .sl p l.length c ex ∧ Sl H 4 (l.map Tok.row) p ∧ l.length ≤ 9223372036854775807 := by
  have h' := targ_one (by rw [Tryd.underlying46]; simp) (by rw [Tryd.underlying46]; simp) h
  have hsz : Tryd.prog.cellsOf 57 = 4 := by kernel_rfl
  rcases typed_slice Tryd.underlying46 h' with h | ⟨l, n, rs, h, ho, hn, hm, hr⟩
  · cases h
    exact ⟨none, 0, true, [], rfl, .nil rfl, by simp⟩
  · rw [hsz] at h ho
    cases h
    obtain ⟨L, hL⟩ := toks_rows (rs.take n) (fun r hr' => by
      obtain ⟨i, hi, rfl⟩ := List.getElem_of_mem (List.mem_of_mem_take hr')
      exact hr i _ (List.getElem?_eq_getElem hi))
    have hlen : L.length = n := by
      have := congrArg List.length hL
      rw [List.length_map, List.length_take] at this
      omega
    refine ⟨some (l, 0, 4), rs.length, true, L, by rw [hlen], .at (hw _ _ ho) ho (by rw [List.length_map, hlen]; omega) (by rw [List.length_map, hlen, List.drop_zero, hL]), ?_⟩
    have hx : maxLen = 9223372036854775807 := by decide
    omega
theorem int3_arg {H : DH} {d : DV} (h : TArg Tryd.prog H 3 d) : ∃ n, d = .int .i64 n := by
  obtain ⟨x, e, hw⟩ := typed_int Tryd.underlying3 (targ_one (by rw [Tryd.underlying3]; simp) (by rw [Tryd.underlying3]; simp) h)
  cases e; exact ⟨x, rfl⟩
theorem row10 (H : DH) (hr : RO H) (hw : WF H) (hp : Pins 0 1 TabsO H) (xs : List DV) (hx : TArgs Tryd.prog H [46, 9, 3] xs) : CallWp Tryd.prog X8 10 xs H (fun r _ => r = .bool true) := by
  match xs, hx with
  | [a, b, c], ⟨h1, h2, h3, _⟩ =>
    obtain ⟨p, c, ex, l, rfl, hl, hm⟩ := toks_arg hw h1
    obtain ⟨s, rfl, _⟩ := str_arg h2
    obtain ⟨n, rfl⟩ := int3_arg h3
    exact tells10 hm hl hw hp
theorem tabs_row {w : World} (h : laidMetH Tryd.prog Go.Proofs.YtlmjhpnmfmnmgaaDoor.Rows.lexTellsRow.laid w) : ∃ o0 o1, w.heap[0]? = some o0 ∧ w.heap[1]? = some o1 ∧ TabsO o0 o1 := by
  rw [MakeChecks.laidMetH_plain _ _ _ (by kernel_rfl)] at h
  have e1 : Go.Proofs.YtlmjhpnmfmnmgaaDoor.Rows.laid_unicode_utf8_first = Lib.firstData := by kernel_rfl
  have e2 : Go.Proofs.YtlmjhpnmfmnmgaaDoor.Rows.laid_unicode_utf8_acceptRanges = Lib.acceptData := by kernel_rfl
  refine tabs_laid (laidMet.reads h ?_) (laidMet.reads h ?_)
  · rw [← e1]; exact List.mem_cons_of_mem _ List.mem_cons_self
  · rw [← e2]; exact List.mem_cons_self
end Go.Det.C
namespace Go.Proofs.YtlmjhpnmfmnmgaaDoor.lexTells
open Go Go.Det Go.Det.C Go.ChangeShapes Go.WideShapes Go.ChangeAt Go.RowKit
set_option linter.unusedVariables false
theorem own : ownKnob Tryd.prog.godebug = none := by kernel_rfl
theorem laidOut : laidOutB Tryd.prog = true := by kernel_rfl
set_option maxRecDepth 100000 in
theorem lifted (os : Os) (started : os.Started) (H : Type) (enc : TypeId × Value → H) :
    ReturnsInHanded {} Tryd.checked os 10 .any (fun w args => (Rows.lexTellsSpec.pre enc Tryd.prog Tryd.f10 Rows.lexTellsRow.domain false w args ∧ laidMetH Tryd.prog Rows.lexTellsRow.laid w) ∧ sizedMet enc Tryd.prog Tryd.f10 (OpenSpec.ofChange Rows.lexTellsSpec) false w args) (Rows.lexTellsSpec.post enc Tryd.prog Tryd.f10 false true false false) := by
  exact row_lawP (g0 := 0) (g1 := 1) (T := TabsO) (by decide) (fun _ _ h => tabs_row h) (C := Tryd.checked) (ts := [46, 9, 3]) (rt := 4) (n := 5) (Y := fun w _ => laidMetH Tryd.prog Rows.lexTellsRow.laid w) (fun _ _ _ hh h => h.of_heap hh) own started (by kernel_rfl) Tryd.func10
    (ChangeSpec.witness_shaped (enc := enc) (C := Tryd.checked) (os := os) (X := fun w _ => laidMetH Tryd.prog Rows.lexTellsRow.laid w) false (World.laidAll Tryd.prog os Rows.lexTellsRow.laid) #[.slice none 0 0, .string ⟨#[]⟩, .int .i64 0] 8 (World.laidAll_os _ _ _)
      (World.shaped_of_ZipB (by kernel_rfl) (by kernel_rfl)) (by kernel_rfl) (by kernel_rfl) (by kernel_rfl)
      (by rw [MakeChecks.laidMetH_plain _ _ _ (by kernel_rfl)]; exact laidMet_laidAll _ (by kernel_rfl) (by kernel_rfl)))
    Tryd.params10 rfl Tryd.underlying4 (by kernel_rfl) (by kernel_rfl) laidOut rfl
    (by intro ds h; match ds, h with | [_, _, _], _ => rfl)
    (fun H xs hr hw hp hx ρ w vs ha hv => calls_cd ok8 Tryd.func10 rfl rfl (row10 H hr hw hp xs hx) ρ w vs ha hv)
theorem over : Rows.lexTellsRow.holds Tryd.pinned (OpenSpec.ofChange Rows.lexTellsSpec) :=
  OpenClaim.holds_of_wide 10 Tryd.f10 rfl rfl rfl rfl rfl rfl rfl ⟨rfl, rfl, rfl, rfl, rfl⟩ rfl rfl rfl rfl rfl (by kernel_rfl) Tryd.func10 (by kernel_rfl)
    (of_decide_eq_true (by kernel_rfl)) (by unfold Func.isWrapper; first | (rw [if_pos (by decide +kernel)]; kernel_rfl) | (rw [if_neg (by decide +kernel)]; exact ⟨rfl, rfl⟩))
    (fun os started H enc _ => lifted os started H enc)
end Go.Proofs.YtlmjhpnmfmnmgaaDoor.lexTells
namespace Go.Proofs.YtlmjhpnmfmnmgaaDoor
open Go
theorem lexTellsCard_holds : Rows.LexTellsCardSaid :=
  Claim7.holds_tied_plain_at .later [] [.data, .pinned] true (true, "fca51c1127abe396201119b1a65a5416d6d9d503135c32425230788a095605eb") false
    lexTells.over (fun _ h => by cases h) (by kernel_rfl) (fun _ h => by cases h) lexTells_row_tie rfl ⟨rfl, rfl⟩ (by kernel_rfl) rfl
    (fun f fn hf hfn => by
      obtain rfl : f = 10 := Option.some.inj ((show Tryd.prog.funcNamed "pallet/palletlaw14.LexTells" = some 10 by kernel_rfl).symm.trans hf) |>.symm
      obtain rfl : fn = Tryd.f10 := (Option.some.inj (Tryd.func10.symm.trans hfn)).symm
      exact ⟨by kernel_rfl, fun j t ht => by
        rw [Tryd.params10] at ht
        have hm : t ∈ [46, 9, 3] := by simpa using Array.mem_of_getElem? ht
        have hall : ([46, 9, 3].all fun u => !Tryd.prog.wantsStandIn u) = true := by kernel_rfl
        exact (show Tryd.prog.wantsStandIn t = false by simpa using List.all_eq_true.1 hall t hm)⟩)
    (by kernel_rfl)
#print axioms lexTellsCard_holds
end Go.Proofs.YtlmjhpnmfmnmgaaDoor
