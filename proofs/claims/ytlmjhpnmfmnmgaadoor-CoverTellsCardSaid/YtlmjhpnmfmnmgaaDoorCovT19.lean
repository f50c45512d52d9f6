/- CoverTells answers true, whatever it is handed: what came of any injections, by any events, how many, a report's text, and whether any event notices any injection, or why not, are as the document says. -/
import Derived.Lay
import Derived.ProofKit
import Derived.Test.YtlmjhpnmfmnmgaaDoorTie
import Derived.Test.YtlmjhpnmfmnmgaaDoorCards
import Derived.Lib.LaidTab
import Derived.Test.YtlmjhpnmfmnmgaaDoorCovT18
namespace Go.Det.C
open Go Go.Det Go.Proofs Go.RowKit
set_option maxRecDepth 4000
set_option linter.unusedVariables false
theorem len4_Inj {α : Type} {l : List α} (h : l.length = 4) : ∃ a b c d, l = [a, b, c, d] := by
  match l, h with
  | [a, b, c, d], _ => exact ⟨a, b, c, d, rfl⟩
theorem in_Inj {H : DH} {cs : List DV} (h : Typed Tryd.prog H 30 cs) : ∃ x : Inj, cs = x.row := by
  obtain ⟨h1, h2⟩ := typed_struct (fs := _) Tryd.underlying30 h
  have hsz : Tryd.prog.cellsOf 30 = 4 := by kernel_rfl
  have c2 : Tryd.prog.cellsOf 2 = 1 := by kernel_rfl
  have c3 : Tryd.prog.cellsOf 3 = 1 := by kernel_rfl
  rw [hsz] at h1
  obtain ⟨x0, x1, x2, x3, rfl⟩ := len4_Inj h1
  simp only [List.forall_mem_cons, c2, c3, List.drop_zero, List.drop_succ_cons, List.take_succ_cons, List.take_zero] at h2
  obtain ⟨t0, t1, t2, t3, _⟩ := h2
  obtain ⟨n0, e0, _⟩ := typed_int Tryd.underlying2 t0
  obtain ⟨n1, e1, _⟩ := typed_int Tryd.underlying3 t1
  obtain ⟨n2, e2, _⟩ := typed_int Tryd.underlying3 t2
  obtain ⟨n3, e3, _⟩ := typed_int Tryd.underlying2 t3
  cases e0; cases e1; cases e2; cases e3
  exact ⟨⟨n0, n1, n2, n3⟩, rfl⟩
theorem rows_Inj {H : DH} : ∀ (rs : List (List DV)), (∀ r ∈ rs, Typed Tryd.prog H 30 r) → ∃ l : List Inj, rs = l.map Inj.row
  | [], _ => ⟨[], rfl⟩
  | r :: rs, h => by
    obtain ⟨x, hx⟩ := in_Inj (h r (by simp))
    obtain ⟨l, hl⟩ := rows_Inj rs fun r' hr => h r' (by simp [hr])
    exact ⟨x :: l, by rw [hx, hl]; rfl⟩
theorem arg_Inj {H : DH} (hw : WF H) {d : DV} (h : TArg Tryd.prog H 22 d) : ∃ p c ex, ∃ l : List Inj, d = .sl p l.length c ex ∧ Sl H 4 (l.map Inj.row) p ∧ l.length ≤ 9223372036854775807 ∧ l.length ≤ c := by
  have h' := targ_one (by rw [Tryd.underlying22]; simp) (by rw [Tryd.underlying22]; simp) h
  have hsz : Tryd.prog.cellsOf 30 = 4 := by kernel_rfl
  rcases typed_slice Tryd.underlying22 h' with h | ⟨l, n, rs, h, ho, hn, hm, hr⟩
  · cases h
    exact ⟨none, 0, true, [], rfl, .nil rfl, by simp, by simp⟩
  · rw [hsz] at h ho
    cases h
    obtain ⟨L, hL⟩ := rows_Inj (rs.take n) (fun r hr' => by
      obtain ⟨i, hi, rfl⟩ := List.getElem_of_mem (List.mem_of_mem_take hr')
      exact hr i _ (List.getElem?_eq_getElem hi))
    have hlen : L.length = n := by
      have := congrArg List.length hL
      rw [List.length_map, List.length_take] at this
      omega
    refine ⟨some (l, 0, 4), rs.length, true, L, by rw [hlen], .at (hw _ _ ho) ho (by rw [List.length_map, hlen]; omega) (by rw [List.length_map, hlen, List.drop_zero, hL]), ?_, by omega⟩
    have hx : maxLen = 9223372036854775807 := by decide
    omega
theorem len5_Ev {α : Type} {l : List α} (h : l.length = 5) : ∃ a b c d e, l = [a, b, c, d, e] := by
  match l, h with
  | [a, b, c, d, e], _ => exact ⟨a, b, c, d, e, rfl⟩
theorem in_Ev {H : DH} {cs : List DV} (h : Typed Tryd.prog H 34 cs) : ∃ x : Ev, cs = x.row := by
  obtain ⟨h1, h2⟩ := typed_struct (fs := _) Tryd.underlying34 h
  have hsz : Tryd.prog.cellsOf 34 = 5 := by kernel_rfl
  have c2 : Tryd.prog.cellsOf 2 = 1 := by kernel_rfl
  have c3 : Tryd.prog.cellsOf 3 = 1 := by kernel_rfl
  rw [hsz] at h1
  obtain ⟨x0, x1, x2, x3, x4, rfl⟩ := len5_Ev h1
  simp only [List.forall_mem_cons, c2, c3, List.drop_zero, List.drop_succ_cons, List.take_succ_cons, List.take_zero] at h2
  obtain ⟨t0, t1, t2, t3, t4, _⟩ := h2
  obtain ⟨n0, e0, _⟩ := typed_int Tryd.underlying2 t0
  obtain ⟨n1, e1, _⟩ := typed_int Tryd.underlying3 t1
  obtain ⟨n2, e2, _⟩ := typed_int Tryd.underlying3 t2
  obtain ⟨n3, e3, _⟩ := typed_int Tryd.underlying2 t3
  obtain ⟨n4, e4, _⟩ := typed_int Tryd.underlying2 t4
  cases e0; cases e1; cases e2; cases e3; cases e4
  exact ⟨⟨n0, n1, n2, n3, n4⟩, rfl⟩
theorem rows_Ev {H : DH} : ∀ (rs : List (List DV)), (∀ r ∈ rs, Typed Tryd.prog H 34 r) → ∃ l : List Ev, rs = l.map Ev.row
  | [], _ => ⟨[], rfl⟩
  | r :: rs, h => by
    obtain ⟨x, hx⟩ := in_Ev (h r (by simp))
    obtain ⟨l, hl⟩ := rows_Ev rs fun r' hr => h r' (by simp [hr])
    exact ⟨x :: l, by rw [hx, hl]; rfl⟩
theorem arg_Ev {H : DH} (hw : WF H) {d : DV} (h : TArg Tryd.prog H 23 d) : ∃ p c ex, ∃ l : List Ev, d = .sl p l.length c ex ∧ Sl H 5 (l.map Ev.row) p ∧ l.length ≤ 9223372036854775807 ∧ l.length ≤ c := by
  have h' := targ_one (by rw [Tryd.underlying23]; simp) (by rw [Tryd.underlying23]; simp) h
  have hsz : Tryd.prog.cellsOf 34 = 5 := by kernel_rfl
  rcases typed_slice Tryd.underlying23 h' with h | ⟨l, n, rs, h, ho, hn, hm, hr⟩
  · cases h
    exact ⟨none, 0, true, [], rfl, .nil rfl, by simp, by simp⟩
  · rw [hsz] at h ho
    cases h
    obtain ⟨L, hL⟩ := rows_Ev (rs.take n) (fun r hr' => by
      obtain ⟨i, hi, rfl⟩ := List.getElem_of_mem (List.mem_of_mem_take hr')
      exact hr i _ (List.getElem?_eq_getElem hi))
    have hlen : L.length = n := by
      have := congrArg List.length hL
      rw [List.length_map, List.length_take] at this
      omega
    refine ⟨some (l, 0, 5), rs.length, true, L, by rw [hlen], .at (hw _ _ ho) ho (by rw [List.length_map, hlen]; omega) (by rw [List.length_map, hlen, List.drop_zero, hL]), ?_, by omega⟩
    have hx : maxLen = 9223372036854775807 := by decide
    omega
theorem arg_i64 {H : DH} {d : DV} (h : TArg Tryd.prog H 3 d) : ∃ n, d = .int .i64 n ∧ -9223372036854775808 ≤ n ∧ n ≤ 9223372036854775807 := by
  have h1 := targ_one (t := 3) (fun fs e => by cases e) (fun n e e' => by cases e') h
  obtain ⟨n, e, hl⟩ := typed_int rfl h1
  cases e
  refine ⟨n, rfl, ?_⟩
  simp [Lit.wf, IntKind.min, IntKind.max, IntKind.signed, IntKind.bits] at hl
  omega
theorem len7_Fire {α : Type} {l : List α} (h : l.length = 7) : ∃ a b c d e f g, l = [a, b, c, d, e, f, g] := by
  match l, h with
  | [a, b, c, d, e, f, g], _ => exact ⟨a, b, c, d, e, f, g, rfl⟩
theorem in_Fire {H : DH} {cs : List DV} (h : Typed Tryd.prog H 32 cs) : ∃ x : Fire, cs = x.row := by
  obtain ⟨h1, h2⟩ := typed_struct (fs := _) Tryd.underlying32 h
  have hsz : Tryd.prog.cellsOf 32 = 7 := by kernel_rfl
  have c30 : Tryd.prog.cellsOf 30 = 4 := by kernel_rfl
  have c4 : Tryd.prog.cellsOf 4 = 1 := by kernel_rfl
  have c2 : Tryd.prog.cellsOf 2 = 1 := by kernel_rfl
  rw [hsz] at h1
  obtain ⟨x0, x1, x2, x3, x4, x5, x6, rfl⟩ := len7_Fire h1
  simp only [List.forall_mem_cons, c30, c4, c2, List.drop_zero, List.drop_succ_cons, List.take_succ_cons, List.take_zero] at h2
  obtain ⟨t0, t1, t2, t3, _⟩ := h2
  obtain ⟨x, e0⟩ := in_Inj t0
  obtain ⟨f, e1⟩ := typed_bool Tryd.underlying4 t1
  obtain ⟨d, e2⟩ := typed_bool Tryd.underlying4 t2
  obtain ⟨a, e3, _⟩ := typed_int Tryd.underlying2 t3
  cases e0; cases e1; cases e2; cases e3
  exact ⟨⟨x, f, d, a⟩, rfl⟩
theorem rows_Fire {H : DH} : ∀ (rs : List (List DV)), (∀ r ∈ rs, Typed Tryd.prog H 32 r) → ∃ l : List Fire, rs = l.map Fire.row
  | [], _ => ⟨[], rfl⟩
  | r :: rs, h => by
    obtain ⟨x, hx⟩ := in_Fire (h r (by simp))
    obtain ⟨l, hl⟩ := rows_Fire rs fun r' hr => h r' (by simp [hr])
    exact ⟨x :: l, by rw [hx, hl]; rfl⟩
theorem arg_Fire {H : DH} (hw : WF H) {d : DV} (h : TArg Tryd.prog H 24 d) : ∃ p c ex, ∃ l : List Fire, d = .sl p l.length c ex ∧ Sl H 7 (l.map Fire.row) p ∧ l.length ≤ 9223372036854775807 ∧ l.length ≤ c := by
  have h' := targ_one (by rw [Tryd.underlying24]; simp) (by rw [Tryd.underlying24]; simp) h
  have hsz : Tryd.prog.cellsOf 32 = 7 := by kernel_rfl
  rcases typed_slice Tryd.underlying24 h' with h | ⟨l, n, rs, h, ho, hn, hm, hr⟩
  · cases h
    exact ⟨none, 0, true, [], rfl, .nil rfl, by simp, by simp⟩
  · rw [hsz] at h ho
    cases h
    obtain ⟨L, hL⟩ := rows_Fire (rs.take n) (fun r hr' => by
      obtain ⟨i, hi, rfl⟩ := List.getElem_of_mem (List.mem_of_mem_take hr')
      exact hr i _ (List.getElem?_eq_getElem hi))
    have hlen : L.length = n := by
      have := congrArg List.length hL
      rw [List.length_map, List.length_take] at this
      omega
    refine ⟨some (l, 0, 7), rs.length, true, L, by rw [hlen], .at (hw _ _ ho) ho (by rw [List.length_map, hlen]; omega) (by rw [List.length_map, hlen, List.drop_zero, hL]), ?_, by omega⟩
    have hx : maxLen = 9223372036854775807 := by decide
    omega
theorem row3 (H : DH) (hr : RO H) (hw : WF H) (hp : Pins 2 0 PowO H) (xs : List DV) (hx : TArgs Tryd.prog H [22, 23, 24] xs) : CallWp Tryd.prog X10 3 xs H (fun r _ => r = .bool true) := by
  match xs, hx with
  | [a, b, c], ⟨h1, h2, h3, _⟩ =>
    obtain ⟨p, c, ex, l, rfl, hs, hl, hc⟩ := arg_Inj hw h1
    obtain ⟨p2, c2, ex2, l2, rfl, hs2, hl2, hc2⟩ := arg_Ev hw h2
    obtain ⟨p3, c3, ex3, l3, rfl, hs3, hl3, hc3⟩ := arg_Fire hw h3
    exact tells3 hw hp hl hl2 hl3 hs hs2 hs3 hc
theorem laid_tail {P : Program} {a : String × DataW Unit} {rest : List (String × DataW Unit)} {w : World} (h : laidMet P (a :: rest) w) : laidMet P rest w := by
  obtain ⟨n, d⟩ := a
  obtain ⟨ps, ⟨g', t', cs, fuel, p, q, hg', ht', hvar, hd, h5, h6⟩, hnd, h7⟩ := h
  subst h6
  exact ⟨q, h5, (List.nodup_append.mp hnd).2.1, fun b off hm => h7 b off (List.mem_append_right _ hm)⟩
theorem pow_row {w : World} (h : laidMetH Tryd.prog Go.Proofs.YtlmjhpnmfmnmgaaDoor.Rows.coverTellsRow.laid w) : ∃ o0 o1, w.heap[2]? = some o0 ∧ w.heap[0]? = some o1 ∧ PowO o0 o1 := by
  rw [MakeChecks.laidMetH_plain _ _ _ (by kernel_rfl)] at h
  have e1 : (Go.Proofs.YtlmjhpnmfmnmgaaDoor.Rows.laid_internal_strconv_uint64pow10 : DataW Unit) = Lib.tabData .u64 Lib.pow10Tab := by kernel_rfl
  have h3 : laidMet Tryd.prog [("internal/strconv.uint64pow10", Lib.tabData .u64 Lib.pow10Tab)] w := by
    rw [← e1]
    exact laid_tail (laid_tail h)
  exact pow_laid (Lib.tabIs_of_head (g := 2) (t := 159) (e := 104) (n := 20) (by kernel_rfl) (by kernel_rfl) Tryd.underlying159 Tryd.underlying104 (by kernel_rfl) (by kernel_rfl) h3)
end Go.Det.C
namespace Go.Proofs.YtlmjhpnmfmnmgaaDoor.coverTells
open Go Go.Det Go.Det.C Go.ChangeShapes Go.WideShapes Go.ChangeAt Go.RowKit
set_option linter.unusedVariables false
theorem own : ownKnob Tryd.prog.godebug = none := by kernel_rfl
theorem laidOut : laidOutB Tryd.prog = true := by kernel_rfl
set_option maxRecDepth 100000 in
theorem lifted (os : Os) (started : os.Started) (H : Type) (enc : TypeId × Value → H) :
    ReturnsInHanded {} Tryd.checked os 3 .any (fun w args => (Rows.coverTellsSpec.pre enc Tryd.prog Tryd.f3 Rows.coverTellsRow.domain false w args ∧ laidMetH Tryd.prog Rows.coverTellsRow.laid w) ∧ sizedMet enc Tryd.prog Tryd.f3 (OpenSpec.ofChange Rows.coverTellsSpec) false w args) (Rows.coverTellsSpec.post enc Tryd.prog Tryd.f3 false true false false) := by
  exact row_lawP (g0 := 2) (g1 := 0) (T := PowO) (by decide) (fun _ _ h => pow_row h) (C := Tryd.checked) (ts := [22, 23, 24]) (rt := 4) (n := 5) (Y := fun w _ => laidMetH Tryd.prog Rows.coverTellsRow.laid w) (fun _ _ _ hh h => h.of_heap hh) own started (by kernel_rfl) Tryd.func3
    (ChangeSpec.witness_shaped (enc := enc) (C := Tryd.checked) (os := os) (X := fun w _ => laidMetH Tryd.prog Rows.coverTellsRow.laid w) false (World.laidAll Tryd.prog os Rows.coverTellsRow.laid) #[.slice none 0 0, .slice none 0 0, .slice none 0 0] 8 (World.laidAll_os _ _ _)
      (World.shaped_of_ZipB (by kernel_rfl) (by kernel_rfl)) (by kernel_rfl) (by kernel_rfl) (by kernel_rfl)
      (by rw [MakeChecks.laidMetH_plain _ _ _ (by kernel_rfl)]; exact laidMet_laidAll _ (by kernel_rfl) (by kernel_rfl)))
    Tryd.params3 rfl Tryd.underlying4 (by kernel_rfl) (by kernel_rfl) laidOut rfl
    (by intro ds h; match ds, h with | [_, _, _], _ => rfl)
    (fun H xs hr hw hp hx ρ w vs ha hv => calls_cd ok10 Tryd.func3 rfl rfl (row3 H hr hw hp xs hx) ρ w vs ha hv)
theorem over : Rows.coverTellsRow.holds Tryd.pinned (OpenSpec.ofChange Rows.coverTellsSpec) :=
  OpenClaim.holds_of_wide 3 Tryd.f3 rfl rfl rfl rfl rfl rfl rfl ⟨rfl, rfl, rfl, rfl, rfl⟩ rfl rfl rfl rfl rfl (by kernel_rfl) Tryd.func3 (by kernel_rfl)
    (of_decide_eq_true (by kernel_rfl)) (by unfold Func.isWrapper; first | (rw [if_pos (by decide +kernel)]; kernel_rfl) | (rw [if_neg (by decide +kernel)]; exact ⟨rfl, rfl⟩))
    (fun os started H enc _ => lifted os started H enc)
end Go.Proofs.YtlmjhpnmfmnmgaaDoor.coverTells
namespace Go.Proofs.YtlmjhpnmfmnmgaaDoor
open Go
theorem coverTellsCard_holds : Rows.CoverTellsCardSaid :=
  Claim7.holds_tied_plain_at .later [] [.data, .data, .data] true (true, "fca51c1127abe396201119b1a65a5416d6d9d503135c32425230788a095605eb") false
    coverTells.over (fun _ h => by cases h) (by kernel_rfl) (fun _ h => by cases h) coverTells_row_tie rfl ⟨rfl, rfl⟩ (by kernel_rfl) rfl
    (fun f fn hf hfn => by
      obtain rfl : f = 3 := Option.some.inj ((show Tryd.prog.funcNamed "pallet/palletlaw24.CoverTells" = some 3 by kernel_rfl).symm.trans hf) |>.symm
      obtain rfl : fn = Tryd.f3 := (Option.some.inj (Tryd.func3.symm.trans hfn)).symm
      exact ⟨by kernel_rfl, fun j t ht => by
        rw [Tryd.params3] at ht
        have hm : t ∈ [22, 23, 24] := by simpa using Array.mem_of_getElem? ht
        have hall : ([22, 23, 24].all fun u => !Tryd.prog.wantsStandIn u) = true := by kernel_rfl
        exact (show Tryd.prog.wantsStandIn t = false by simpa using List.all_eq_true.1 hall t hm)⟩)
    (by kernel_rfl)
#print axioms coverTellsCard_holds
end Go.Proofs.YtlmjhpnmfmnmgaaDoor
