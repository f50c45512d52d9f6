/- CoverExact answers true, whatever it is handed: of injections of which no two are the same each fired just if its event is in the log, and was detected just if an event that notices it is behind that, at the time of the first such one. -/
import Derived.Lay
import Derived.ProofKit
import Derived.Test.YtlmjhpnmfmnmgaaDoorTie
import Derived.Test.YtlmjhpnmfmnmgaaDoorCards
import Derived.Test.YtlmjhpnmfmnmgaaDoorCovE15
namespace Go.Det.C
open Go Go.Det Go.Proofs
set_option maxRecDepth 4000
set_option linter.unusedVariables false
theorem len4_Inj {α : Type} {l : List α} (h : l.length = 4) : ∃ a b c d, l = [a, b, c, d] := by
  match l, h with
  | [a, b, c, d], _ => exact ⟨a, b, c, d, rfl⟩
theorem in_Inj {H : DH} {cs : List DV} (h : Typed Tryd.prog H 30 cs) : ∃ x : Inj, cs = x.row := by
  obtain ⟨h1, h2⟩ := typed_struct (fs := _) Tryd.underlying30 h
  have hsz : Tryd.prog.cellsOf 30 = 4 := by kernel_rfl
  have c2 : Tryd.prog.cellsOf 2 = 1 := by kernel_rfl
  have c3 : Tryd.prog.cellsOf 3 = 1 := by kernel_rfl
  rw [hsz] at h1
  obtain ⟨x0, x1, x2, x3, rfl⟩ := len4_Inj h1
  simp only [List.forall_mem_cons, c2, c3, List.drop_zero, List.drop_succ_cons, List.take_succ_cons, List.take_zero] at h2
  obtain ⟨t0, t1, t2, t3, _⟩ := h2
  obtain ⟨n0, e0, _⟩ := typed_int Tryd.underlying2 t0
  obtain ⟨n1, e1, _⟩ := typed_int Tryd.underlying3 t1
  obtain ⟨n2, e2, _⟩ := typed_int Tryd.underlying3 t2
  obtain ⟨n3, e3, _⟩ := typed_int Tryd.underlying2 t3
  cases e0; cases e1; cases e2; cases e3
  exact ⟨⟨n0, n1, n2, n3⟩, rfl⟩
theorem rows_Inj {H : DH} : ∀ (rs : List (List DV)), (∀ r ∈ rs, Typed Tryd.prog H 30 r) → ∃ l : List Inj, rs = l.map Inj.row
  | [], _ => ⟨[], rfl⟩
  | r :: rs, h => by
    obtain ⟨x, hx⟩ := in_Inj (h r (by simp))
    obtain ⟨l, hl⟩ := rows_Inj rs fun r' hr => h r' (by simp [hr])
    exact ⟨x :: l, by rw [hx, hl]; rfl⟩
theorem arg_Inj {H : DH} (hw : WF H) {d : DV} (h : TArg Tryd.prog H 22 d) : ∃ p c ex, ∃ l : List Inj, d = .sl p l.length c ex ∧ Sl H 4 (l.map Inj.row) p ∧ l.length ≤ 9223372036854775807 ∧ l.length ≤ c := by
  have h' := targ_one (by rw [Tryd.underlying22]; simp) (by rw [Tryd.underlying22]; simp) h
  have hsz : Tryd.prog.cellsOf 30 = 4 := by kernel_rfl
  rcases typed_slice Tryd.underlying22 h' with h | ⟨l, n, rs, h, ho, hn, hm, hr⟩
  · cases h
    exact ⟨none, 0, true, [], rfl, .nil rfl, by simp, by simp⟩
  · rw [hsz] at h ho
    cases h
    obtain ⟨L, hL⟩ := rows_Inj (rs.take n) (fun r hr' => by
      obtain ⟨i, hi, rfl⟩ := List.getElem_of_mem (List.mem_of_mem_take hr')
      exact hr i _ (List.getElem?_eq_getElem hi))
    have hlen : L.length = n := by
      have := congrArg List.length hL
      rw [List.length_map, List.length_take] at this
      omega
    refine ⟨some (l, 0, 4), rs.length, true, L, by rw [hlen], .at (hw _ _ ho) ho (by rw [List.length_map, hlen]; omega) (by rw [List.length_map, hlen, List.drop_zero, hL]), ?_, by omega⟩
    have hx : maxLen = 9223372036854775807 := by decide
    omega
theorem len5_Ev {α : Type} {l : List α} (h : l.length = 5) : ∃ a b c d e, l = [a, b, c, d, e] := by
  match l, h with
  | [a, b, c, d, e], _ => exact ⟨a, b, c, d, e, rfl⟩
theorem in_Ev {H : DH} {cs : List DV} (h : Typed Tryd.prog H 34 cs) : ∃ x : Ev, cs = x.row := by
  obtain ⟨h1, h2⟩ := typed_struct (fs := _) Tryd.underlying34 h
  have hsz : Tryd.prog.cellsOf 34 = 5 := by kernel_rfl
  have c2 : Tryd.prog.cellsOf 2 = 1 := by kernel_rfl
  have c3 : Tryd.prog.cellsOf 3 = 1 := by kernel_rfl
  rw [hsz] at h1
  obtain ⟨x0, x1, x2, x3, x4, rfl⟩ := len5_Ev h1
  simp only [List.forall_mem_cons, c2, c3, List.drop_zero, List.drop_succ_cons, List.take_succ_cons, List.take_zero] at h2
  obtain ⟨t0, t1, t2, t3, t4, _⟩ := h2
  obtain ⟨n0, e0, _⟩ := typed_int Tryd.underlying2 t0
  obtain ⟨n1, e1, _⟩ := typed_int Tryd.underlying3 t1
  obtain ⟨n2, e2, _⟩ := typed_int Tryd.underlying3 t2
  obtain ⟨n3, e3, _⟩ := typed_int Tryd.underlying2 t3
  obtain ⟨n4, e4, _⟩ := typed_int Tryd.underlying2 t4
  cases e0; cases e1; cases e2; cases e3; cases e4
  exact ⟨⟨n0, n1, n2, n3, n4⟩, rfl⟩
theorem rows_Ev {H : DH} : ∀ (rs : List (List DV)), (∀ r ∈ rs, Typed Tryd.prog H 34 r) → ∃ l : List Ev, rs = l.map Ev.row
  | [], _ => ⟨[], rfl⟩
  | r :: rs, h => by
    obtain ⟨x, hx⟩ := in_Ev (h r (by simp))
    obtain ⟨l, hl⟩ := rows_Ev rs fun r' hr => h r' (by simp [hr])
    exact ⟨x :: l, by rw [hx, hl]; rfl⟩
theorem arg_Ev {H : DH} (hw : WF H) {d : DV} (h : TArg Tryd.prog H 23 d) : ∃ p c ex, ∃ l : List Ev, d = .sl p l.length c ex ∧ Sl H 5 (l.map Ev.row) p ∧ l.length ≤ 9223372036854775807 ∧ l.length ≤ c := by
  have h' := targ_one (by rw [Tryd.underlying23]; simp) (by rw [Tryd.underlying23]; simp) h
  have hsz : Tryd.prog.cellsOf 34 = 5 := by kernel_rfl
  rcases typed_slice Tryd.underlying23 h' with h | ⟨l, n, rs, h, ho, hn, hm, hr⟩
  · cases h
    exact ⟨none, 0, true, [], rfl, .nil rfl, by simp, by simp⟩
  · rw [hsz] at h ho
    cases h
    obtain ⟨L, hL⟩ := rows_Ev (rs.take n) (fun r hr' => by
      obtain ⟨i, hi, rfl⟩ := List.getElem_of_mem (List.mem_of_mem_take hr')
      exact hr i _ (List.getElem?_eq_getElem hi))
    have hlen : L.length = n := by
      have := congrArg List.length hL
      rw [List.length_map, List.length_take] at this
      omega
    refine ⟨some (l, 0, 5), rs.length, true, L, by rw [hlen], .at (hw _ _ ho) ho (by rw [List.length_map, hlen]; omega) (by rw [List.length_map, hlen, List.drop_zero, hL]), ?_, by omega⟩
    have hx : maxLen = 9223372036854775807 := by decide
    omega
theorem arg_i64 {H : DH} {d : DV} (h : TArg Tryd.prog H 3 d) : ∃ n, d = .int .i64 n ∧ -9223372036854775808 ≤ n ∧ n ≤ 9223372036854775807 := by
  have h1 := targ_one (t := 3) (fun fs e => by cases e) (fun n e e' => by cases e') h
  obtain ⟨n, e, hl⟩ := typed_int rfl h1
  cases e
  refine ⟨n, rfl, ?_⟩
  simp [Lit.wf, IntKind.min, IntKind.max, IntKind.signed, IntKind.bits] at hl
  omega
theorem row4 (H : DH) (hr : RO H) (hw : WF H) (xs : List DV) (hx : TArgs Tryd.prog H [22, 23] xs) : CallWp Tryd.prog X9 4 xs H (fun r _ => r = .bool true) := by
  match xs, hx with
  | [a, b], ⟨h1, h2, _⟩ =>
    obtain ⟨p, c, ex, l, rfl, hs, hl, _⟩ := arg_Inj hw h1
    obtain ⟨p2, c2, ex2, l2, rfl, hs2, hl2, hc2⟩ := arg_Ev hw h2
    exact exact4 hl hl2 hs hs2
end Go.Det.C
namespace Go.Proofs.YtlmjhpnmfmnmgaaDoor.coverExact
open Go Go.Det Go.Det.C Go.ChangeShapes Go.WideShapes Go.ChangeAt Go.RowKit
set_option linter.unusedVariables false
theorem own : ownKnob Tryd.prog.godebug = none := by kernel_rfl
theorem laidOut : laidOutB Tryd.prog = true := by kernel_rfl
set_option maxRecDepth 100000 in
theorem lifted (os : Os) (started : os.Started) (H : Type) (enc : TypeId × Value → H) :
    ReturnsInHanded {} Tryd.checked os 4 .any (fun w args => (Rows.coverExactSpec.pre enc Tryd.prog Tryd.f4 Rows.coverExactRow.domain false w args ∧ laidMetH Tryd.prog Rows.coverExactRow.laid w) ∧ sizedMet enc Tryd.prog Tryd.f4 (OpenSpec.ofChange Rows.coverExactSpec) false w args) (Rows.coverExactSpec.post enc Tryd.prog Tryd.f4 false true false false) := by
  exact row_lawL (C := Tryd.checked) (ts := [22, 23]) (rt := 4) (n := 5) (Y := fun w _ => laidMetH Tryd.prog Rows.coverExactRow.laid w) (fun _ _ _ hh h => h.of_heap hh) own started (by kernel_rfl) Tryd.func4
    (ChangeSpec.witness_shaped (enc := enc) (C := Tryd.checked) (os := os) (X := fun w _ => laidMetH Tryd.prog Rows.coverExactRow.laid w) false (World.laidAll Tryd.prog os Rows.coverExactRow.laid) #[.slice none 0 0, .slice none 0 0] 8 (World.laidAll_os _ _ _)
      (World.shaped_of_ZipB (by kernel_rfl) (by kernel_rfl)) (by kernel_rfl) (by kernel_rfl) (by kernel_rfl)
      (by rw [MakeChecks.laidMetH_plain _ _ _ (by kernel_rfl)]; exact laidMet_laidAll _ (by kernel_rfl) (by kernel_rfl)))
    Tryd.params4 rfl Tryd.underlying4 (by kernel_rfl) (by kernel_rfl) laidOut rfl
    (by intro ds h; match ds, h with | [_, _], _ => rfl)
    (fun H xs hr hw hx ρ w vs ha hv => calls_cd ok9 Tryd.func4 rfl rfl (row4 H hr hw xs hx) ρ w vs ha hv)
theorem over : Rows.coverExactRow.holds Tryd.pinned (OpenSpec.ofChange Rows.coverExactSpec) :=
  OpenClaim.holds_of_wide 4 Tryd.f4 rfl rfl rfl rfl rfl rfl rfl ⟨rfl, rfl, rfl, rfl, rfl⟩ rfl rfl rfl rfl rfl (by kernel_rfl) Tryd.func4 (by kernel_rfl)
    (of_decide_eq_true (by kernel_rfl)) (by unfold Func.isWrapper; first | (rw [if_pos (by decide +kernel)]; kernel_rfl) | (rw [if_neg (by decide +kernel)]; exact ⟨rfl, rfl⟩))
    (fun os started H enc _ => lifted os started H enc)
end Go.Proofs.YtlmjhpnmfmnmgaaDoor.coverExact
namespace Go.Proofs.YtlmjhpnmfmnmgaaDoor
open Go
theorem coverExactCard_holds : Rows.CoverExactCardSaid :=
  Claim7.holds_tied_plain_at .later [] [.data, .data, .data] true (true, "fca51c1127abe396201119b1a65a5416d6d9d503135c32425230788a095605eb") false
    coverExact.over (fun _ h => by cases h) (by kernel_rfl) (fun _ h => by cases h) coverExact_row_tie rfl ⟨rfl, rfl⟩ (by kernel_rfl) rfl
    (fun f fn hf hfn => by
      obtain rfl : f = 4 := Option.some.inj ((show Tryd.prog.funcNamed "pallet/palletlaw24.CoverExact" = some 4 by kernel_rfl).symm.trans hf) |>.symm
      obtain rfl : fn = Tryd.f4 := (Option.some.inj (Tryd.func4.symm.trans hfn)).symm
      exact ⟨by kernel_rfl, fun j t ht => by
        rw [Tryd.params4] at ht
        have hm : t ∈ [22, 23] := by simpa using Array.mem_of_getElem? ht
        have hall : ([22, 23].all fun u => !Tryd.prog.wantsStandIn u) = true := by kernel_rfl
        exact (show Tryd.prog.wantsStandIn t = false by simpa using List.all_eq_true.1 hall t hm)⟩)
    (by kernel_rfl)
#print axioms coverExactCard_holds
end Go.Proofs.YtlmjhpnmfmnmgaaDoor
