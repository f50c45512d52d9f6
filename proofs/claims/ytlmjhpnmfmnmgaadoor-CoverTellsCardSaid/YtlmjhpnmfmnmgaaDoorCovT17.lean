/- Cover: the reference's Check of injections. -/
import Derived.Test.YtlmjhpnmfmnmgaaDoorCovT16
namespace Go.Det.C
open Go Go.Det Go.Proofs
set_option maxRecDepth 4000
set_option maxHeartbeats 4000000
set_option linter.unusedVariables false
set_option linter.unusedSimpArgs false
def refOff6 (x : Inj) : Bool := !([x.t, x.u].all fitB) || (decide (x.t < 0) || (decide (x.u < x.t) || (decide (x.k < 1) || (decide (x.k > 5) || (decide (x.w < 0) || (decide (x.w > 15) || ((x.k == 3) && decide (x.w > 1))))))))
def refOff8 (x : Inj) : Bool := ((x.k == 4) || (x.k == 5)) && (x.u != x.t)
theorem refOff_eq (x : Inj) : (refOff6 x || refOff8 x) = offF x := by
  unfold refOff6 refOff8 offF instantF
  cases hf : [x.t, x.u].all fitB with
  | false => simp
  | true =>
    rw [Bool.eq_iff_iff]
    by_cases h3 : x.k = 3
    · simp [h3]; omega
    · simp only [Bool.not_true, Bool.false_or, Bool.or_eq_true, Bool.and_eq_true, decide_eq_true_eq, beq_iff_eq, bne_iff_ne, ne_eq, h3, false_and, if_false, or_false]
      omega
theorem sortedB_idx : ∀ l : List Inj, sortedB l = true ↔ ∀ (i : Nat) (z x : Inj), l[i]? = some z → l[i + 1]? = some x → ¬ compareF x z < 0
  | [] => by simp [sortedB]
  | [a] => by simp [sortedB]
  | a :: b :: r => by
    have ih := sortedB_idx (b :: r)
    rw [sortedB, Bool.and_eq_true, ih]
    constructor
    · rintro ⟨h1, h2⟩ i z x hz hx
      cases i with
      | zero =>
        simp only [List.getElem?_cons_zero, List.getElem?_cons_succ, Option.some.injEq] at hz hx
        subst hz hx
        simpa using h1
      | succ i => exact h2 i z x (by simpa using hz) (by simpa using hx)
    · intro h
      exact ⟨by simpa using h 0 a b rfl rfl, fun i z x hz hx => h (i + 1) z x (by simpa using hz) (by simpa using hx)⟩
theorem tabOk_bad {l : List Inj} {i : Nat} {x : Inj} (hx : l[i]? = some x) (h : offF x = true) : tabOk l = false := by
  unfold tabOk
  have : l.any offF = true := List.any_eq_true.mpr ⟨x, List.mem_of_getElem? hx, h⟩
  rw [this]; simp
theorem tabOk_unord {l : List Inj} {i : Nat} {z x : Inj} (hz : l[i]? = some z) (hx : l[i + 1]? = some x) (h : compareF x z < 0) : tabOk l = false := by
  unfold tabOk
  have : sortedB l = false := by
    cases hs : sortedB l with
    | false => rfl
    | true => exact absurd h ((sortedB_idx l).mp hs i z x hz hx)
  rw [this]; simp
theorem tabOk_all {l : List Inj} (hl : l.length ≤ 500) (h1 : ∀ (j : Nat) (x : Inj), l[j]? = some x → offF x = false) (h2 : ∀ (j : Nat) (z x : Inj), l[j]? = some z → l[j + 1]? = some x → ¬ compareF x z < 0) : tabOk l = true := by
  unfold tabOk
  have e1 : l.any offF = false := by
    rw [List.any_eq_false]
    intro y hy
    obtain ⟨j, hj⟩ := List.getElem?_of_mem hy
    rw [h1 j y hj]; simp
  have e2 : sortedB l = true := (sortedB_idx l).mpr h2
  have e3 : decide (l.length > 500) = false := by simp; omega
  rw [e1, e2, e3]; rfl
theorem check35 {l : List Inj} {p : Option (Nat × Nat × Nat)} {c : Nat} {ex : Bool} {H : DH} (hll : l.length ≤ 9223372036854775807) (hs : Sl H 4 (l.map Inj.row) p) : CallWp Tryd.prog X3 35 [.sl p l.length c ex] H (fun r H' => r = .int .i64 (if tabOk l then 0 else 1) ∧ Above H H') := by
  cases h1 : decide ((l.length : Int) > 500) with
  | true =>
    have e : tabOk l = false := by unfold tabOk; rw [show decide (l.length > 500) = true by simp at h1 ⊢; omega]; rfl
    rw [e]
    refine enter rfl Tryd.func35 rfl Tryd.ntmps35 rfl ?_
    dsimp only [List.cons_append, List.nil_append, List.length_cons, List.length_nil, List.replicate_succ, List.replicate_zero, Nat.reduceAdd, Nat.reduceSub]
    repeat' (first | dsimp only [putD, DV.cells, DH.new_next, DH.set_next, List.length_cons, List.length_nil, Nat.reduceAdd, List.set_cons_zero, List.set_cons_succ, getD_zero, getD_succ, fieldAt_zero, fieldAt_succ, thenD, blockD, retR] | apply dwp_seq | apply dwp_region | apply ops_nil | (apply ops_plain; (· exact rfl)) | (apply op_at; (· exact rfl)) | (apply dwp_cond_t; (· exact rfl); (· (with_reducible first | assumption | rfl | decide))) | apply dwp_ret | (refine ⟨_, rfl, ?_⟩) | fail)
    exact ⟨rfl, Above.refl _⟩
  | false =>
    have hl2 : l.length ≤ 500 := by simp at h1; omega
    refine enter rfl Tryd.func35 rfl Tryd.ntmps35 rfl ?_
    dsimp only [List.cons_append, List.nil_append, List.length_cons, List.length_nil, List.replicate_succ, List.replicate_zero, Nat.reduceAdd, Nat.reduceSub]
    repeat' (first | dsimp only [putD, DV.cells, DH.new_next, DH.set_next, List.length_cons, List.length_nil, Nat.reduceAdd, List.set_cons_zero, List.set_cons_succ, getD_zero, getD_succ, fieldAt_zero, fieldAt_succ, thenD, blockD, retR] | apply dwp_seq | apply dwp_region | apply ops_nil | (apply ops_plain; (· exact rfl)) | (apply op_at; (· exact rfl)) | (apply dwp_cond_f; (· exact rfl); (· (with_reducible first | assumption | rfl | decide))) | apply dwp_block | apply dwp_skip | fail)
    refine dwp_loop (fun st => ∃ (H1 : DH) (i : Nat), ∃ J : Nat → DV, (Bx H H1 [] [] ∧ i ≤ l.length ∧ (∀ (j : Nat) (y : Inj), j < i → l[j]? = some y → offF y = false) ∧ (∀ (j : Nat) (x y : Inj), j + 1 < i → l[j]? = some x → l[j + 1]? = some y → ¬ compareF y x < 0)) ∧ st = ⟨(.sl p l.length c ex :: J 1 :: J 2 :: J 3 :: J 4 :: J 5 :: J 6 :: J 7 :: .sl p l.length c ex :: .int .i64 (l.length : Int) :: .int .i64 (i : Int) :: J 11 :: J 12 :: J 13 :: J 14 :: J 15 :: J 16 :: J 17 :: J 18 :: J 19 :: J 20 :: J 21 :: J 22 :: J 23 :: J 24 :: J 25 :: J 26 :: J 27 :: J 28 :: J 29 :: J 30 :: J 31 :: J 32 :: J 33 :: J 34 :: J 35 :: J 36 :: J 37 :: J 38 :: J 39 :: J 40 :: J 41 :: J 42 :: J 43 :: J 44 :: J 45 :: J 46 :: J 47 :: J 48 :: J 49 :: J 50 :: J 51 :: J 52 :: J 53 :: J 54 :: J 55 :: J 56 :: J 57 :: J 58 :: J 59 :: J 60 :: J 61 :: J 62 :: J 63 :: J 64 :: J 65 :: J 66 :: J 67 :: J 68 :: J 69 :: J 70 :: J 71 :: J 72 :: J 73 :: J 74 :: J 75 :: J 76 :: J 77 :: J 78 :: J 79 :: J 80 :: J 81 :: J 82 :: J 83 :: J 84 :: J 85 :: J 86 :: J 87 :: J 88 :: J 89 :: J 90 :: J 91 :: J 92 :: []), H1⟩) (fun st => l.length - kOf st 10) (⟨_, 0, junk_facts (⟨Bx.init (fun f hf => by cases hf), Nat.zero_le _, fun _ _ h => absurd h (Nat.not_lt_zero _), fun _ _ _ h => absurd h (Nat.not_lt_zero _)⟩) rfl rfl⟩) ?_
    rintro st ⟨H1, i, J, ⟨hB, hi, hq1, hq2⟩, rfl⟩
    by_cases hlt : i < l.length
    · obtain ⟨x, hx⟩ : ∃ x, l[i]? = some x := ⟨l[i], List.getElem?_eq_getElem hlt⟩
      obtain ⟨loc, i0, ro, rs, rfl, hloc, ho, hall⟩ := sl_all hs (fun e => by rw [List.map_eq_nil_iff] at e; subst e; simp at hlt)
      have hr0 := hall i x.row (by rw [List.getElem?_map, hx]; rfl)
      have hr1 : rs[i0 + ((i : Int)).toNat]? = some x.row := by rw [Int.toNat_natCast]; exact hr0
      have hc : decide ((i : Int) < (l.length : Int)) = true := by simp [hlt]
      have hin1 : 0 ≤ (i : Int) ∧ (i : Int) < (l.length : Int) := by omega
      have hw : IntKind.i64.wrap ((i : Int) + 1) = ((i + 1 : Nat) : Int) := by rw [wrapI (by omega)]; rfl
      repeat' (first | dsimp only [putD, DV.cells, DH.new_next, DH.set_next, List.length_cons, List.length_nil, Nat.reduceAdd, List.set_cons_zero, List.set_cons_succ, getD_zero, getD_succ, fieldAt_zero, fieldAt_succ, thenD, blockD, retR] | (refine dwp_cutAt (id := 6) (fun st => ∃ (H2 : DH), ∃ J : Nat → DV, (Bx H H2 [(b4, .rows false 4 [x.row])] []) ∧ st = ⟨(.sl (some (loc, i0, 4)) l.length c ex :: J 1 :: J 2 :: .int .i64 (i : Int) :: .ptr (some (b4, 0, 0)) :: J 5 :: J 6 :: J 7 :: .sl (some (loc, i0, 4)) l.length c ex :: .int .i64 (l.length : Int) :: .int .i64 (i : Int) :: J 11 :: J 12 :: J 13 :: J 14 :: J 15 :: J 16 :: J 17 :: J 18 :: J 19 :: J 20 :: J 21 :: J 22 :: J 23 :: J 24 :: J 25 :: J 26 :: J 27 :: J 28 :: J 29 :: J 30 :: J 31 :: J 32 :: J 33 :: J 34 :: J 35 :: J 36 :: J 37 :: J 38 :: J 39 :: J 40 :: J 41 :: J 42 :: J 43 :: J 44 :: J 45 :: J 46 :: J 47 :: J 48 :: J 49 :: J 50 :: J 51 :: J 52 :: J 53 :: J 54 :: J 55 :: J 56 :: J 57 :: J 58 :: J 59 :: J 60 :: J 61 :: J 62 :: .bool (refOff6 x) :: J 64 :: J 65 :: J 66 :: J 67 :: J 68 :: J 69 :: J 70 :: J 71 :: J 72 :: J 73 :: J 74 :: J 75 :: J 76 :: J 77 :: J 78 :: J 79 :: J 80 :: J 81 :: J 82 :: J 83 :: J 84 :: J 85 :: J 86 :: J 87 :: J 88 :: J 89 :: J 90 :: J 91 :: J 92 :: []), H2⟩) ?_ ?_) | apply dwp_seq | apply dwp_region | apply ops_nil | (apply ops_plain; (· exact rfl)) | (apply op_index_at; (· exact rfl); (· exact rfl); (· exact rfl); (· with_reducible exact hin1); (· exact rfl); (· exact rfl)) | (apply op_load_at; (· exact rfl); (· exact rfl); (· exact hB.ab.obj hloc ho); (· exact hr1); (· exact partInjR x)) | (apply bx_store0; (· exact rfl); (· exact rfl); (· exact rfl); (· assumption); (· (first | (dsimp only [DV.cells, getD_zero, getD_succ, Sv.cells]; done) | (dsimp only [DV.cells, getD_zero, getD_succ, Sv.cells]; exact rfl) | exact rfl)); (· (repeat (first | with_reducible exact Upd.here | with_reducible apply Upd.there))); (· exact rfl); (· exact rfl); (· exact rfl); (· exact rfl); intro H1 hB) | (apply bx_alloc; (· exact rfl); (· exact zero30); (· (first | (dsimp only [DV.cells, getD_zero, getD_succ, Sv.cells]; done) | (dsimp only [DV.cells, getD_zero, getD_succ, Sv.cells]; exact rfl) | exact rfl)); (· exact rfl); (· exact rfl); (· exact rfl); (· assumption); intro b4 H1 hB) | (apply op_at; (· exact rfl)) | (apply dwp_cond_t; (· exact rfl); (· (with_reducible first | assumption | rfl | decide))) | apply dwp_block | apply dwp_skip | fail)
      · refine ⟨?_⟩
        cases c0 : (!([x.t, x.u].all fitB)) with
        | true =>
          have e6 : refOff6 x = true := by simp only [refOff6, c0, if_true, Bool.false_eq_true, if_false, Bool.true_or, Bool.false_or, Bool.true_and, Bool.false_and, Bool.not_true, Bool.not_false, Bool.or_true, Bool.or_false, Bool.and_true, Bool.and_false]
          rw [e6]
          repeat' (first | dsimp only [putD, DV.cells, DH.new_next, DH.set_next, List.length_cons, List.length_nil, Nat.reduceAdd, List.set_cons_zero, List.set_cons_succ, getD_zero, getD_succ, fieldAt_zero, fieldAt_succ, thenD, blockD, retR] | apply dwp_region | apply ops_nil | (apply ops_plain; (· exact rfl)) | (apply ops_off0; (· exact rfl); (· exact rfl); (· (with_reducible first | assumption | rfl | decide))) | (apply ops_offn; (· exact rfl); (· exact rfl)) | (apply op_call; (· exact rfl); (· exact rfl); (· exact rfl); (refine (may43e (.two (x := x.t) (y := x.u) (Bx.get (by assumption) At.here))).mono ?_; rintro r H' ⟨rfl, rfl⟩)) | (apply op_pick_t; (· exact rfl); (· exact rfl); (· (with_reducible first | assumption | rfl | decide)); (· exact rfl)) | (apply bx_buildL et112'; (· exact rfl); (· exact rfl); (· exact rfl); (· decide); (· assumption); intro bn H1 hB) | (apply bx_load0; (· exact rfl); (· exact rfl); (· assumption); (· (repeat (first | with_reducible exact At.here | with_reducible apply At.there))); (· (first | exact partInjR _ | exact rfl))) | (apply op_at; (· exact rfl)) | fail)
          exact ⟨rfl, _, junk_facts (hB.drop1) rfl rfl⟩
        | false =>
          cases c1 : decide (x.t < 0) with
          | true =>
            have e6 : refOff6 x = true := by simp only [refOff6, c0, c1, if_true, Bool.false_eq_true, if_false, Bool.true_or, Bool.false_or, Bool.true_and, Bool.false_and, Bool.not_true, Bool.not_false, Bool.or_true, Bool.or_false, Bool.and_true, Bool.and_false]
            rw [e6]
            repeat' (first | dsimp only [putD, DV.cells, DH.new_next, DH.set_next, List.length_cons, List.length_nil, Nat.reduceAdd, List.set_cons_zero, List.set_cons_succ, getD_zero, getD_succ, fieldAt_zero, fieldAt_succ, thenD, blockD, retR] | apply dwp_region | apply ops_nil | (apply ops_plain; (· exact rfl)) | (apply ops_on; (· exact rfl); (· exact rfl); (· (with_reducible first | assumption | rfl | decide))) | (apply ops_off0; (· exact rfl); (· exact rfl); (· (with_reducible first | assumption | rfl | decide))) | (apply ops_offn; (· exact rfl); (· exact rfl)) | (apply op_call; (· exact rfl); (· exact rfl); (· exact rfl); (refine (may43e (.two (x := x.t) (y := x.u) (Bx.get (by assumption) At.here))).mono ?_; rintro r H' ⟨rfl, rfl⟩)) | (apply op_pick_t; (· exact rfl); (· exact rfl); (· (with_reducible first | assumption | rfl | decide)); (· exact rfl)) | (apply op_pick_f; (· exact rfl); (· exact rfl); (· (with_reducible first | assumption | rfl | decide)); (· exact rfl)) | (apply bx_buildL et112'; (· exact rfl); (· exact rfl); (· exact rfl); (· decide); (· assumption); intro bn H1 hB) | (apply bx_load0; (· exact rfl); (· exact rfl); (· assumption); (· (repeat (first | with_reducible exact At.here | with_reducible apply At.there))); (· (first | exact partInjR _ | exact rfl))) | (apply op_at; (· exact rfl)) | fail)
            exact ⟨rfl, _, junk_facts (hB.drop1) rfl rfl⟩
          | false =>
            cases c2 : decide (x.u < x.t) with
            | true =>
              have e6 : refOff6 x = true := by simp only [refOff6, c0, c1, c2, if_true, Bool.false_eq_true, if_false, Bool.true_or, Bool.false_or, Bool.true_and, Bool.false_and, Bool.not_true, Bool.not_false, Bool.or_true, Bool.or_false, Bool.and_true, Bool.and_false]
              rw [e6]
              repeat' (first | dsimp only [putD, DV.cells, DH.new_next, DH.set_next, List.length_cons, List.length_nil, Nat.reduceAdd, List.set_cons_zero, List.set_cons_succ, getD_zero, getD_succ, fieldAt_zero, fieldAt_succ, thenD, blockD, retR] | apply dwp_region | apply ops_nil | (apply ops_plain; (· exact rfl)) | (apply ops_on; (· exact rfl); (· exact rfl); (· (with_reducible first | assumption | rfl | decide))) | (apply ops_off0; (· exact rfl); (· exact rfl); (· (with_reducible first | assumption | rfl | decide))) | (apply ops_offn; (· exact rfl); (· exact rfl)) | (apply op_call; (· exact rfl); (· exact rfl); (· exact rfl); (refine (may43e (.two (x := x.t) (y := x.u) (Bx.get (by assumption) At.here))).mono ?_; rintro r H' ⟨rfl, rfl⟩)) | (apply op_pick_t; (· exact rfl); (· exact rfl); (· (with_reducible first | assumption | rfl | decide)); (· exact rfl)) | (apply op_pick_f; (· exact rfl); (· exact rfl); (· (with_reducible first | assumption | rfl | decide)); (· exact rfl)) | (apply bx_buildL et112'; (· exact rfl); (· exact rfl); (· exact rfl); (· decide); (· assumption); intro bn H1 hB) | (apply bx_load0; (· exact rfl); (· exact rfl); (· assumption); (· (repeat (first | with_reducible exact At.here | with_reducible apply At.there))); (· (first | exact partInjR _ | exact rfl))) | (apply op_at; (· exact rfl)) | fail)
              exact ⟨rfl, _, junk_facts (hB.drop1) rfl rfl⟩
            | false =>
              cases c3 : decide (x.k < 1) with
              | true =>
                have e6 : refOff6 x = true := by simp only [refOff6, c0, c1, c2, c3, if_true, Bool.false_eq_true, if_false, Bool.true_or, Bool.false_or, Bool.true_and, Bool.false_and, Bool.not_true, Bool.not_false, Bool.or_true, Bool.or_false, Bool.and_true, Bool.and_false]
                rw [e6]
                repeat' (first | dsimp only [putD, DV.cells, DH.new_next, DH.set_next, List.length_cons, List.length_nil, Nat.reduceAdd, List.set_cons_zero, List.set_cons_succ, getD_zero, getD_succ, fieldAt_zero, fieldAt_succ, thenD, blockD, retR] | apply dwp_region | apply ops_nil | (apply ops_plain; (· exact rfl)) | (apply ops_on; (· exact rfl); (· exact rfl); (· (with_reducible first | assumption | rfl | decide))) | (apply ops_off0; (· exact rfl); (· exact rfl); (· (with_reducible first | assumption | rfl | decide))) | (apply ops_offn; (· exact rfl); (· exact rfl)) | (apply op_call; (· exact rfl); (· exact rfl); (· exact rfl); (refine (may43e (.two (x := x.t) (y := x.u) (Bx.get (by assumption) At.here))).mono ?_; rintro r H' ⟨rfl, rfl⟩)) | (apply op_pick_t; (· exact rfl); (· exact rfl); (· (with_reducible first | assumption | rfl | decide)); (· exact rfl)) | (apply op_pick_f; (· exact rfl); (· exact rfl); (· (with_reducible first | assumption | rfl | decide)); (· exact rfl)) | (apply bx_buildL et112'; (· exact rfl); (· exact rfl); (· exact rfl); (· decide); (· assumption); intro bn H1 hB) | (apply bx_load0; (· exact rfl); (· exact rfl); (· assumption); (· (repeat (first | with_reducible exact At.here | with_reducible apply At.there))); (· (first | exact partInjR _ | exact rfl))) | (apply op_at; (· exact rfl)) | fail)
                exact ⟨rfl, _, junk_facts (hB.drop1) rfl rfl⟩
              | false =>
                cases c4 : decide (x.k > 5) with
                | true =>
                  have e6 : refOff6 x = true := by simp only [refOff6, c0, c1, c2, c3, c4, if_true, Bool.false_eq_true, if_false, Bool.true_or, Bool.false_or, Bool.true_and, Bool.false_and, Bool.not_true, Bool.not_false, Bool.or_true, Bool.or_false, Bool.and_true, Bool.and_false]
                  rw [e6]
                  repeat' (first | dsimp only [putD, DV.cells, DH.new_next, DH.set_next, List.length_cons, List.length_nil, Nat.reduceAdd, List.set_cons_zero, List.set_cons_succ, getD_zero, getD_succ, fieldAt_zero, fieldAt_succ, thenD, blockD, retR] | apply dwp_region | apply ops_nil | (apply ops_plain; (· exact rfl)) | (apply ops_on; (· exact rfl); (· exact rfl); (· (with_reducible first | assumption | rfl | decide))) | (apply ops_off0; (· exact rfl); (· exact rfl); (· (with_reducible first | assumption | rfl | decide))) | (apply ops_offn; (· exact rfl); (· exact rfl)) | (apply op_call; (· exact rfl); (· exact rfl); (· exact rfl); (refine (may43e (.two (x := x.t) (y := x.u) (Bx.get (by assumption) At.here))).mono ?_; rintro r H' ⟨rfl, rfl⟩)) | (apply op_pick_t; (· exact rfl); (· exact rfl); (· (with_reducible first | assumption | rfl | decide)); (· exact rfl)) | (apply op_pick_f; (· exact rfl); (· exact rfl); (· (with_reducible first | assumption | rfl | decide)); (· exact rfl)) | (apply bx_buildL et112'; (· exact rfl); (· exact rfl); (· exact rfl); (· decide); (· assumption); intro bn H1 hB) | (apply bx_load0; (· exact rfl); (· exact rfl); (· assumption); (· (repeat (first | with_reducible exact At.here | with_reducible apply At.there))); (· (first | exact partInjR _ | exact rfl))) | (apply op_at; (· exact rfl)) | fail)
                  exact ⟨rfl, _, junk_facts (hB.drop1) rfl rfl⟩
                | false =>
                  cases c5 : decide (x.w < 0) with
                  | true =>
                    have e6 : refOff6 x = true := by simp only [refOff6, c0, c1, c2, c3, c4, c5, if_true, Bool.false_eq_true, if_false, Bool.true_or, Bool.false_or, Bool.true_and, Bool.false_and, Bool.not_true, Bool.not_false, Bool.or_true, Bool.or_false, Bool.and_true, Bool.and_false]
                    rw [e6]
                    repeat' (first | dsimp only [putD, DV.cells, DH.new_next, DH.set_next, List.length_cons, List.length_nil, Nat.reduceAdd, List.set_cons_zero, List.set_cons_succ, getD_zero, getD_succ, fieldAt_zero, fieldAt_succ, thenD, blockD, retR] | apply dwp_region | apply ops_nil | (apply ops_plain; (· exact rfl)) | (apply ops_on; (· exact rfl); (· exact rfl); (· (with_reducible first | assumption | rfl | decide))) | (apply ops_off0; (· exact rfl); (· exact rfl); (· (with_reducible first | assumption | rfl | decide))) | (apply ops_offn; (· exact rfl); (· exact rfl)) | (apply op_call; (· exact rfl); (· exact rfl); (· exact rfl); (refine (may43e (.two (x := x.t) (y := x.u) (Bx.get (by assumption) At.here))).mono ?_; rintro r H' ⟨rfl, rfl⟩)) | (apply op_pick_t; (· exact rfl); (· exact rfl); (· (with_reducible first | assumption | rfl | decide)); (· exact rfl)) | (apply op_pick_f; (· exact rfl); (· exact rfl); (· (with_reducible first | assumption | rfl | decide)); (· exact rfl)) | (apply bx_buildL et112'; (· exact rfl); (· exact rfl); (· exact rfl); (· decide); (· assumption); intro bn H1 hB) | (apply bx_load0; (· exact rfl); (· exact rfl); (· assumption); (· (repeat (first | with_reducible exact At.here | with_reducible apply At.there))); (· (first | exact partInjR _ | exact rfl))) | (apply op_at; (· exact rfl)) | fail)
                    exact ⟨rfl, _, junk_facts (hB.drop1) rfl rfl⟩
                  | false =>
                    cases c6 : decide (x.w > 15) with
                    | true =>
                      have e6 : refOff6 x = true := by simp only [refOff6, c0, c1, c2, c3, c4, c5, c6, if_true, Bool.false_eq_true, if_false, Bool.true_or, Bool.false_or, Bool.true_and, Bool.false_and, Bool.not_true, Bool.not_false, Bool.or_true, Bool.or_false, Bool.and_true, Bool.and_false]
                      rw [e6]
                      repeat' (first | dsimp only [putD, DV.cells, DH.new_next, DH.set_next, List.length_cons, List.length_nil, Nat.reduceAdd, List.set_cons_zero, List.set_cons_succ, getD_zero, getD_succ, fieldAt_zero, fieldAt_succ, thenD, blockD, retR] | apply dwp_region | apply ops_nil | (apply ops_plain; (· exact rfl)) | (apply ops_on; (· exact rfl); (· exact rfl); (· (with_reducible first | assumption | rfl | decide))) | (apply ops_off0; (· exact rfl); (· exact rfl); (· (with_reducible first | assumption | rfl | decide))) | (apply ops_offn; (· exact rfl); (· exact rfl)) | (apply op_call; (· exact rfl); (· exact rfl); (· exact rfl); (refine (may43e (.two (x := x.t) (y := x.u) (Bx.get (by assumption) At.here))).mono ?_; rintro r H' ⟨rfl, rfl⟩)) | (apply op_pick_t; (· exact rfl); (· exact rfl); (· (with_reducible first | assumption | rfl | decide)); (· exact rfl)) | (apply op_pick_f; (· exact rfl); (· exact rfl); (· (with_reducible first | assumption | rfl | decide)); (· exact rfl)) | (apply bx_buildL et112'; (· exact rfl); (· exact rfl); (· exact rfl); (· decide); (· assumption); intro bn H1 hB) | (apply bx_load0; (· exact rfl); (· exact rfl); (· assumption); (· (repeat (first | with_reducible exact At.here | with_reducible apply At.there))); (· (first | exact partInjR _ | exact rfl))) | (apply op_at; (· exact rfl)) | fail)
                      exact ⟨rfl, _, junk_facts (hB.drop1) rfl rfl⟩
                    | false =>
                      cases c7 : (x.k == 3) with
                      | false =>
                        have e6 : refOff6 x = false := by simp only [refOff6, c0, c1, c2, c3, c4, c5, c6, c7, if_true, Bool.false_eq_true, if_false, Bool.true_or, Bool.false_or, Bool.true_and, Bool.false_and, Bool.not_true, Bool.not_false, Bool.or_true, Bool.or_false, Bool.and_true, Bool.and_false]
                        rw [e6]
                        repeat' (first | dsimp only [putD, DV.cells, DH.new_next, DH.set_next, List.length_cons, List.length_nil, Nat.reduceAdd, List.set_cons_zero, List.set_cons_succ, getD_zero, getD_succ, fieldAt_zero, fieldAt_succ, thenD, blockD, retR] | apply dwp_region | apply ops_nil | (apply ops_plain; (· exact rfl)) | (apply ops_on; (· exact rfl); (· exact rfl); (· (with_reducible first | assumption | rfl | decide))) | (apply ops_off1; (· exact rfl); (· exact rfl); (· (with_reducible first | assumption | rfl | decide))) | (apply op_call; (· exact rfl); (· exact rfl); (· exact rfl); (refine (may43e (.two (x := x.t) (y := x.u) (Bx.get (by assumption) At.here))).mono ?_; rintro r H' ⟨rfl, rfl⟩)) | (apply op_pick_f; (· exact rfl); (· exact rfl); (· (with_reducible first | assumption | rfl | decide)); (· exact rfl)) | (apply bx_buildL et112'; (· exact rfl); (· exact rfl); (· exact rfl); (· decide); (· assumption); intro bn H1 hB) | (apply bx_load0; (· exact rfl); (· exact rfl); (· assumption); (· (repeat (first | with_reducible exact At.here | with_reducible apply At.there))); (· (first | exact partInjR _ | exact rfl))) | (apply op_at; (· exact rfl)) | fail)
                        exact ⟨rfl, _, junk_facts (hB.drop1) rfl rfl⟩
                      | true =>
                        have e6 : refOff6 x = decide (x.w > 1) := by simp only [refOff6, c0, c1, c2, c3, c4, c5, c6, c7, if_true, Bool.false_eq_true, if_false, Bool.true_or, Bool.false_or, Bool.true_and, Bool.false_and, Bool.not_true, Bool.not_false, Bool.or_true, Bool.or_false, Bool.and_true, Bool.and_false]
                        rw [e6]
                        repeat' (first | dsimp only [putD, DV.cells, DH.new_next, DH.set_next, List.length_cons, List.length_nil, Nat.reduceAdd, List.set_cons_zero, List.set_cons_succ, getD_zero, getD_succ, fieldAt_zero, fieldAt_succ, thenD, blockD, retR] | apply dwp_region | apply ops_nil | (apply ops_plain; (· exact rfl)) | (apply ops_on; (· exact rfl); (· exact rfl); (· (with_reducible first | assumption | rfl | decide))) | (apply op_call; (· exact rfl); (· exact rfl); (· exact rfl); (refine (may43e (.two (x := x.t) (y := x.u) (Bx.get (by assumption) At.here))).mono ?_; rintro r H' ⟨rfl, rfl⟩)) | (apply op_pick_t; (· exact rfl); (· exact rfl); (· (with_reducible first | assumption | rfl | decide)); (· exact rfl)) | (apply op_pick_f; (· exact rfl); (· exact rfl); (· (with_reducible first | assumption | rfl | decide)); (· exact rfl)) | (apply bx_buildL et112'; (· exact rfl); (· exact rfl); (· exact rfl); (· decide); (· assumption); intro bn H1 hB) | (apply bx_load0; (· exact rfl); (· exact rfl); (· assumption); (· (repeat (first | with_reducible exact At.here | with_reducible apply At.there))); (· (first | exact partInjR _ | exact rfl))) | (apply op_at; (· exact rfl)) | fail)
                        exact ⟨rfl, _, junk_facts (hB.drop1) rfl rfl⟩
      · rintro st ⟨H2, J, hB, rfl⟩
        try dsimp only [thenD]
        cases h6 : refOff6 x with
        | true =>
          have hev := tabOk_bad hx (by rw [← refOff_eq, h6]; rfl)
          repeat' (first | dsimp only [putD, DV.cells, DH.new_next, DH.set_next, List.length_cons, List.length_nil, Nat.reduceAdd, List.set_cons_zero, List.set_cons_succ, getD_zero, getD_succ, fieldAt_zero, fieldAt_succ, thenD, blockD, retR] | apply dwp_seq | apply dwp_region | apply ops_nil | (apply ops_plain; (· exact rfl)) | (apply op_at; (· exact rfl)) | (apply dwp_cond_t; (· exact rfl); (· (with_reducible first | assumption | rfl | decide))) | apply dwp_ret | (refine ⟨_, rfl, ?_⟩) | fail)
          exact ⟨by rw [hev]; rfl, hB.ab⟩
        | false =>
          cases d1 : (x.k == 4) with
          | true =>
            cases d3 : (x.u != x.t) with
            | true =>
              have hev := tabOk_bad hx (by rw [← refOff_eq, h6]; simp only [refOff8, d1, d3, if_true, Bool.false_eq_true, if_false, Bool.true_or, Bool.false_or, Bool.true_and, Bool.false_and, Bool.not_true, Bool.not_false, Bool.or_true, Bool.or_false, Bool.and_true, Bool.and_false])
              repeat' (first | dsimp only [putD, DV.cells, DH.new_next, DH.set_next, List.length_cons, List.length_nil, Nat.reduceAdd, List.set_cons_zero, List.set_cons_succ, getD_zero, getD_succ, fieldAt_zero, fieldAt_succ, thenD, blockD, retR] | refine dwp_drawr _ rfl (fun H' => Above H H' ∧ H'.obj b4 = some (.rows false 4 [x.row])) ⟨hB.ab, hB.get At.here⟩ ?_ | apply drawr_nil | (apply drawr_read; (· (first | exact wanted_plain rfl | (apply wanted_on; (· exact rfl); (· exact rfl); (· (with_reducible first | assumption | rfl | decide))))); (· exact rfl); (· exact rfl); (· intro H' h; exact opD_load rfl rfl h.2 rfl (by first | exact partInjR x | exact rfl))) | (apply drawr_pick_t'; (· (first | exact wanted_plain rfl | (apply wanted_on; (· exact rfl); (· exact rfl); (· (with_reducible first | assumption | rfl | decide))))); (· exact rfl); (· exact rfl); (· (with_reducible first | assumption | rfl | decide)); (· exact rfl)) | (apply drawr_pure; (· (first | exact wanted_plain rfl | (apply wanted_on; (· exact rfl); (· exact rfl); (· (with_reducible first | assumption | rfl | decide))))); (· exact rfl); (· exact rfl); (· exact rfl)) | (apply drawr_off; (· (first | (apply wanted_off1; (· exact rfl); (· exact rfl); (· (with_reducible first | assumption | rfl | decide))) | (apply wanted_off0; (· exact rfl); (· exact rfl); (· (with_reducible first | assumption | rfl | decide))) | (apply wanted_none; (· exact rfl); (· exact rfl))))) | apply dwp_seq | apply dwp_region | apply ops_nil | (apply ops_plain; (· exact rfl)) | (apply op_at; (· exact rfl)) | (apply dwp_cond_t; (· exact rfl); (· (with_reducible first | assumption | rfl | decide))) | (apply dwp_cond_f; (· exact rfl); (· (with_reducible first | assumption | rfl | decide))) | apply dwp_skip | apply dwp_ret | (refine ⟨_, rfl, ?_⟩) | fail)
              exact ⟨by rw [hev]; rfl, hB.ab⟩
            | false =>
              have hof : offF x = false := by rw [← refOff_eq, h6]; simp only [refOff8, d1, d3, if_true, Bool.false_eq_true, if_false, Bool.true_or, Bool.false_or, Bool.true_and, Bool.false_and, Bool.not_true, Bool.not_false, Bool.or_true, Bool.or_false, Bool.and_true, Bool.and_false]
              by_cases h0 : i = 0
              · have hp0 : decide ((i : Int) > 0) = false := by subst h0; rfl
                repeat' (first | dsimp only [putD, DV.cells, DH.new_next, DH.set_next, List.length_cons, List.length_nil, Nat.reduceAdd, List.set_cons_zero, List.set_cons_succ, getD_zero, getD_succ, fieldAt_zero, fieldAt_succ, thenD, blockD, retR] | refine dwp_drawr _ rfl (fun H' => Above H H' ∧ H'.obj b4 = some (.rows false 4 [x.row])) ⟨hB.ab, hB.get At.here⟩ ?_ | apply drawr_nil | (apply drawr_read; (· (first | exact wanted_plain rfl | (apply wanted_on; (· exact rfl); (· exact rfl); (· (with_reducible first | assumption | rfl | decide))))); (· exact rfl); (· exact rfl); (· intro H' h; exact opD_load rfl rfl h.2 rfl (by first | exact partInjR x | exact rfl))) | (apply drawr_pick_t'; (· (first | exact wanted_plain rfl | (apply wanted_on; (· exact rfl); (· exact rfl); (· (with_reducible first | assumption | rfl | decide))))); (· exact rfl); (· exact rfl); (· (with_reducible first | assumption | rfl | decide)); (· exact rfl)) | (apply drawr_pick_f'; (· (first | exact wanted_plain rfl | (apply wanted_on; (· exact rfl); (· exact rfl); (· (with_reducible first | assumption | rfl | decide))))); (· exact rfl); (· exact rfl); (· (with_reducible first | assumption | rfl | decide)); (· exact rfl)) | (apply drawr_pure; (· (first | exact wanted_plain rfl | (apply wanted_on; (· exact rfl); (· exact rfl); (· (with_reducible first | assumption | rfl | decide))))); (· exact rfl); (· exact rfl); (· exact rfl)) | (apply drawr_off; (· (first | (apply wanted_off1; (· exact rfl); (· exact rfl); (· (with_reducible first | assumption | rfl | decide))) | (apply wanted_off0; (· exact rfl); (· exact rfl); (· (with_reducible first | assumption | rfl | decide))) | (apply wanted_none; (· exact rfl); (· exact rfl))))) | apply dwp_seq | apply dwp_region | apply ops_nil | (apply ops_plain; (· exact rfl)) | (apply op_told; (· exact rfl); (· exact congrArg (DV.int _) hw)) | (apply op_at; (· exact rfl)) | (apply dwp_cond_f; (· exact rfl); (· (with_reducible first | assumption | rfl | decide))) | apply dwp_skip | fail)
                refine ⟨⟨_, i + 1, junk_facts ⟨hB.drop1, by omega, fun j u hj hu => ?_, fun j u v hj hu hv => ?_⟩ rfl rfl⟩, ?_⟩
                · rcases Nat.lt_succ_iff_lt_or_eq.mp hj with h | rfl
                  · exact hq1 j u h hu
                  · rw [hx] at hu; cases hu; exact hof
                · rcases Nat.lt_succ_iff_lt_or_eq.mp hj with h | h
                  · exact hq2 j u v h hu hv
                  · omega
                · show l.length - ((i + 1 : Nat) : Int).toNat < l.length - (i : Int).toNat
                  omega
              · obtain ⟨z, hz⟩ : ∃ z, l[i - 1]? = some z := ⟨_, List.getElem?_eq_getElem (by omega)⟩
                have hp0 : decide ((i : Int) > 0) = true := by simp; omega
                have hwz : IntKind.i64.wrap ((i : Int) - 1) = ((i - 1 : Nat) : Int) := by rw [wrapI (by omega)]; omega
                have hinz : 0 ≤ ((i - 1 : Nat) : Int) ∧ ((i - 1 : Nat) : Int) < (l.length : Int) := by omega
                have hrz0 := hall (i - 1) z.row (by rw [List.getElem?_map, hz]; rfl)
                have hrz : rs[i0 + (((i - 1 : Nat) : Int)).toNat]? = some z.row := by rw [Int.toNat_natCast]; exact hrz0
                have hi1 : i - 1 + 1 = i := by omega
                cases hls : decide (compareF x z < 0) with
                | true =>
                  have hev := tabOk_unord hz (by rw [hi1]; exact hx) (by simpa using hls)
                  repeat' (first | dsimp only [putD, DV.cells, DH.new_next, DH.set_next, List.length_cons, List.length_nil, Nat.reduceAdd, List.set_cons_zero, List.set_cons_succ, getD_zero, getD_succ, fieldAt_zero, fieldAt_succ, thenD, blockD, retR] | refine dwp_drawr _ rfl (fun H' => Above H H' ∧ H'.obj b4 = some (.rows false 4 [x.row])) ⟨hB.ab, hB.get At.here⟩ ?_ | apply drawr_nil | (apply drawr_read; (· (first | exact wanted_plain rfl | (apply wanted_on; (· exact rfl); (· exact rfl); (· (with_reducible first | assumption | rfl | decide))))); (· exact rfl); (· exact rfl); (· intro H' h; exact opD_load rfl rfl h.2 rfl (by first | exact partInjR x | exact rfl))) | (apply drawr_read; (· (first | exact wanted_plain rfl | (apply wanted_on; (· exact rfl); (· exact rfl); (· (with_reducible first | assumption | rfl | decide))))); (· exact rfl); (· exact rfl); (· intro H' h; exact opD_load rfl rfl (h.1.obj hloc ho) hrz (partInjR z))) | (apply drawr_pure; (· (first | exact wanted_plain rfl | (apply wanted_on; (· exact rfl); (· exact rfl); (· (with_reducible first | assumption | rfl | decide))))); (· exact rfl); (· exact rfl); (· exact opD_index rfl rfl rfl rfl rfl hinz)) | (apply drawr_pure; (· (first | exact wanted_plain rfl | (apply wanted_on; (· exact rfl); (· exact rfl); (· (with_reducible first | assumption | rfl | decide))))); (· exact rfl); (· exact rfl); (· exact opD_told' rfl (congrArg (DV.int _) hwz))) | (apply drawr_pick_t'; (· (first | exact wanted_plain rfl | (apply wanted_on; (· exact rfl); (· exact rfl); (· (with_reducible first | assumption | rfl | decide))))); (· exact rfl); (· exact rfl); (· (with_reducible first | assumption | rfl | decide)); (· exact rfl)) | (apply drawr_pick_f'; (· (first | exact wanted_plain rfl | (apply wanted_on; (· exact rfl); (· exact rfl); (· (with_reducible first | assumption | rfl | decide))))); (· exact rfl); (· exact rfl); (· (with_reducible first | assumption | rfl | decide)); (· exact rfl)) | (apply drawr_pure; (· (first | exact wanted_plain rfl | (apply wanted_on; (· exact rfl); (· exact rfl); (· (with_reducible first | assumption | rfl | decide))))); (· exact rfl); (· exact rfl); (· exact rfl)) | (apply drawr_move; (· (first | exact wanted_plain rfl | (apply wanted_on; (· exact rfl); (· exact rfl); (· (with_reducible first | assumption | rfl | decide))))); (· exact rfl)) | (apply drawr_off; (· (first | (apply wanted_off1; (· exact rfl); (· exact rfl); (· (with_reducible first | assumption | rfl | decide))) | (apply wanted_off0; (· exact rfl); (· exact rfl); (· (with_reducible first | assumption | rfl | decide))) | (apply wanted_none; (· exact rfl); (· exact rfl))))) | apply dwp_seq | apply dwp_region | apply ops_nil | (apply ops_plain; (· exact rfl)) | (apply op_call; (· exact rfl); (· exact rfl); (· exact rfl); (refine (less66 x z _).mono ?_; rintro r H' ⟨rfl, hab⟩; replace hB := hB.grow hab; refine ⟨⟨hB.ab, hB.get At.here⟩, ?_⟩)) | (apply op_at; (· exact rfl)) | (apply dwp_cond_t; (· exact rfl); (· (with_reducible first | assumption | rfl | decide))) | (apply dwp_cond_f; (· exact rfl); (· (with_reducible first | assumption | rfl | decide))) | apply dwp_skip | apply dwp_ret | (refine ⟨_, rfl, ?_⟩) | fail)
                  exact ⟨by rw [hev]; rfl, hB.ab⟩
                | false =>
                  repeat' (first | dsimp only [putD, DV.cells, DH.new_next, DH.set_next, List.length_cons, List.length_nil, Nat.reduceAdd, List.set_cons_zero, List.set_cons_succ, getD_zero, getD_succ, fieldAt_zero, fieldAt_succ, thenD, blockD, retR] | refine dwp_drawr _ rfl (fun H' => Above H H' ∧ H'.obj b4 = some (.rows false 4 [x.row])) ⟨hB.ab, hB.get At.here⟩ ?_ | apply drawr_nil | (apply drawr_read; (· (first | exact wanted_plain rfl | (apply wanted_on; (· exact rfl); (· exact rfl); (· (with_reducible first | assumption | rfl | decide))))); (· exact rfl); (· exact rfl); (· intro H' h; exact opD_load rfl rfl h.2 rfl (by first | exact partInjR x | exact rfl))) | (apply drawr_read; (· (first | exact wanted_plain rfl | (apply wanted_on; (· exact rfl); (· exact rfl); (· (with_reducible first | assumption | rfl | decide))))); (· exact rfl); (· exact rfl); (· intro H' h; exact opD_load rfl rfl (h.1.obj hloc ho) hrz (partInjR z))) | (apply drawr_pure; (· (first | exact wanted_plain rfl | (apply wanted_on; (· exact rfl); (· exact rfl); (· (with_reducible first | assumption | rfl | decide))))); (· exact rfl); (· exact rfl); (· exact opD_index rfl rfl rfl rfl rfl hinz)) | (apply drawr_pure; (· (first | exact wanted_plain rfl | (apply wanted_on; (· exact rfl); (· exact rfl); (· (with_reducible first | assumption | rfl | decide))))); (· exact rfl); (· exact rfl); (· exact opD_told' rfl (congrArg (DV.int _) hwz))) | (apply drawr_pick_t'; (· (first | exact wanted_plain rfl | (apply wanted_on; (· exact rfl); (· exact rfl); (· (with_reducible first | assumption | rfl | decide))))); (· exact rfl); (· exact rfl); (· (with_reducible first | assumption | rfl | decide)); (· exact rfl)) | (apply drawr_pick_f'; (· (first | exact wanted_plain rfl | (apply wanted_on; (· exact rfl); (· exact rfl); (· (with_reducible first | assumption | rfl | decide))))); (· exact rfl); (· exact rfl); (· (with_reducible first | assumption | rfl | decide)); (· exact rfl)) | (apply drawr_pure; (· (first | exact wanted_plain rfl | (apply wanted_on; (· exact rfl); (· exact rfl); (· (with_reducible first | assumption | rfl | decide))))); (· exact rfl); (· exact rfl); (· exact rfl)) | (apply drawr_move; (· (first | exact wanted_plain rfl | (apply wanted_on; (· exact rfl); (· exact rfl); (· (with_reducible first | assumption | rfl | decide))))); (· exact rfl)) | (apply drawr_off; (· (first | (apply wanted_off1; (· exact rfl); (· exact rfl); (· (with_reducible first | assumption | rfl | decide))) | (apply wanted_off0; (· exact rfl); (· exact rfl); (· (with_reducible first | assumption | rfl | decide))) | (apply wanted_none; (· exact rfl); (· exact rfl))))) | apply dwp_seq | apply dwp_region | apply ops_nil | (apply ops_plain; (· exact rfl)) | (apply op_call; (· exact rfl); (· exact rfl); (· exact rfl); (refine (less66 x z _).mono ?_; rintro r H' ⟨rfl, hab⟩; replace hB := hB.grow hab; refine ⟨⟨hB.ab, hB.get At.here⟩, ?_⟩)) | (apply op_told; (· exact rfl); (· exact congrArg (DV.int _) hw)) | (apply op_at; (· exact rfl)) | (apply dwp_cond_f; (· exact rfl); (· (with_reducible first | assumption | rfl | decide))) | apply dwp_skip | fail)
                  refine ⟨⟨_, i + 1, junk_facts ⟨hB.drop1, by omega, fun j u hj hu => ?_, fun j u v hj hu hv => ?_⟩ rfl rfl⟩, ?_⟩
                  · rcases Nat.lt_succ_iff_lt_or_eq.mp hj with h | rfl
                    · exact hq1 j u h hu
                    · rw [hx] at hu; cases hu; exact hof
                  · rcases Nat.lt_succ_iff_lt_or_eq.mp hj with h | h
                    · exact hq2 j u v h hu hv
                    · have hj' : j = i - 1 := by omega
                      subst hj'
                      rw [hz] at hu; cases hu
                      rw [hi1, hx] at hv; cases hv
                      simpa using hls
                  · show l.length - ((i + 1 : Nat) : Int).toNat < l.length - (i : Int).toNat
                    omega
          | false =>
            cases d2 : (x.k == 5) with
            | true =>
              cases d3 : (x.u != x.t) with
              | true =>
                have hev := tabOk_bad hx (by rw [← refOff_eq, h6]; simp only [refOff8, d1, d2, d3, if_true, Bool.false_eq_true, if_false, Bool.true_or, Bool.false_or, Bool.true_and, Bool.false_and, Bool.not_true, Bool.not_false, Bool.or_true, Bool.or_false, Bool.and_true, Bool.and_false])
                repeat' (first | dsimp only [putD, DV.cells, DH.new_next, DH.set_next, List.length_cons, List.length_nil, Nat.reduceAdd, List.set_cons_zero, List.set_cons_succ, getD_zero, getD_succ, fieldAt_zero, fieldAt_succ, thenD, blockD, retR] | refine dwp_drawr _ rfl (fun H' => Above H H' ∧ H'.obj b4 = some (.rows false 4 [x.row])) ⟨hB.ab, hB.get At.here⟩ ?_ | apply drawr_nil | (apply drawr_read; (· (first | exact wanted_plain rfl | (apply wanted_on; (· exact rfl); (· exact rfl); (· (with_reducible first | assumption | rfl | decide))))); (· exact rfl); (· exact rfl); (· intro H' h; exact opD_load rfl rfl h.2 rfl (by first | exact partInjR x | exact rfl))) | (apply drawr_pick_t'; (· (first | exact wanted_plain rfl | (apply wanted_on; (· exact rfl); (· exact rfl); (· (with_reducible first | assumption | rfl | decide))))); (· exact rfl); (· exact rfl); (· (with_reducible first | assumption | rfl | decide)); (· exact rfl)) | (apply drawr_pick_f'; (· (first | exact wanted_plain rfl | (apply wanted_on; (· exact rfl); (· exact rfl); (· (with_reducible first | assumption | rfl | decide))))); (· exact rfl); (· exact rfl); (· (with_reducible first | assumption | rfl | decide)); (· exact rfl)) | (apply drawr_pure; (· (first | exact wanted_plain rfl | (apply wanted_on; (· exact rfl); (· exact rfl); (· (with_reducible first | assumption | rfl | decide))))); (· exact rfl); (· exact rfl); (· exact rfl)) | (apply drawr_off; (· (first | (apply wanted_off1; (· exact rfl); (· exact rfl); (· (with_reducible first | assumption | rfl | decide))) | (apply wanted_off0; (· exact rfl); (· exact rfl); (· (with_reducible first | assumption | rfl | decide))) | (apply wanted_none; (· exact rfl); (· exact rfl))))) | apply dwp_seq | apply dwp_region | apply ops_nil | (apply ops_plain; (· exact rfl)) | (apply op_at; (· exact rfl)) | (apply dwp_cond_t; (· exact rfl); (· (with_reducible first | assumption | rfl | decide))) | (apply dwp_cond_f; (· exact rfl); (· (with_reducible first | assumption | rfl | decide))) | apply dwp_skip | apply dwp_ret | (refine ⟨_, rfl, ?_⟩) | fail)
                exact ⟨by rw [hev]; rfl, hB.ab⟩
              | false =>
                have hof : offF x = false := by rw [← refOff_eq, h6]; simp only [refOff8, d1, d2, d3, if_true, Bool.false_eq_true, if_false, Bool.true_or, Bool.false_or, Bool.true_and, Bool.false_and, Bool.not_true, Bool.not_false, Bool.or_true, Bool.or_false, Bool.and_true, Bool.and_false]
                by_cases h0 : i = 0
                · have hp0 : decide ((i : Int) > 0) = false := by subst h0; rfl
                  repeat' (first | dsimp only [putD, DV.cells, DH.new_next, DH.set_next, List.length_cons, List.length_nil, Nat.reduceAdd, List.set_cons_zero, List.set_cons_succ, getD_zero, getD_succ, fieldAt_zero, fieldAt_succ, thenD, blockD, retR] | refine dwp_drawr _ rfl (fun H' => Above H H' ∧ H'.obj b4 = some (.rows false 4 [x.row])) ⟨hB.ab, hB.get At.here⟩ ?_ | apply drawr_nil | (apply drawr_read; (· (first | exact wanted_plain rfl | (apply wanted_on; (· exact rfl); (· exact rfl); (· (with_reducible first | assumption | rfl | decide))))); (· exact rfl); (· exact rfl); (· intro H' h; exact opD_load rfl rfl h.2 rfl (by first | exact partInjR x | exact rfl))) | (apply drawr_pick_t'; (· (first | exact wanted_plain rfl | (apply wanted_on; (· exact rfl); (· exact rfl); (· (with_reducible first | assumption | rfl | decide))))); (· exact rfl); (· exact rfl); (· (with_reducible first | assumption | rfl | decide)); (· exact rfl)) | (apply drawr_pick_f'; (· (first | exact wanted_plain rfl | (apply wanted_on; (· exact rfl); (· exact rfl); (· (with_reducible first | assumption | rfl | decide))))); (· exact rfl); (· exact rfl); (· (with_reducible first | assumption | rfl | decide)); (· exact rfl)) | (apply drawr_pure; (· (first | exact wanted_plain rfl | (apply wanted_on; (· exact rfl); (· exact rfl); (· (with_reducible first | assumption | rfl | decide))))); (· exact rfl); (· exact rfl); (· exact rfl)) | (apply drawr_off; (· (first | (apply wanted_off1; (· exact rfl); (· exact rfl); (· (with_reducible first | assumption | rfl | decide))) | (apply wanted_off0; (· exact rfl); (· exact rfl); (· (with_reducible first | assumption | rfl | decide))) | (apply wanted_none; (· exact rfl); (· exact rfl))))) | apply dwp_seq | apply dwp_region | apply ops_nil | (apply ops_plain; (· exact rfl)) | (apply op_told; (· exact rfl); (· exact congrArg (DV.int _) hw)) | (apply op_at; (· exact rfl)) | (apply dwp_cond_f; (· exact rfl); (· (with_reducible first | assumption | rfl | decide))) | apply dwp_skip | fail)
                  refine ⟨⟨_, i + 1, junk_facts ⟨hB.drop1, by omega, fun j u hj hu => ?_, fun j u v hj hu hv => ?_⟩ rfl rfl⟩, ?_⟩
                  · rcases Nat.lt_succ_iff_lt_or_eq.mp hj with h | rfl
                    · exact hq1 j u h hu
                    · rw [hx] at hu; cases hu; exact hof
                  · rcases Nat.lt_succ_iff_lt_or_eq.mp hj with h | h
                    · exact hq2 j u v h hu hv
                    · omega
                  · show l.length - ((i + 1 : Nat) : Int).toNat < l.length - (i : Int).toNat
                    omega
                · obtain ⟨z, hz⟩ : ∃ z, l[i - 1]? = some z := ⟨_, List.getElem?_eq_getElem (by omega)⟩
                  have hp0 : decide ((i : Int) > 0) = true := by simp; omega
                  have hwz : IntKind.i64.wrap ((i : Int) - 1) = ((i - 1 : Nat) : Int) := by rw [wrapI (by omega)]; omega
                  have hinz : 0 ≤ ((i - 1 : Nat) : Int) ∧ ((i - 1 : Nat) : Int) < (l.length : Int) := by omega
                  have hrz0 := hall (i - 1) z.row (by rw [List.getElem?_map, hz]; rfl)
                  have hrz : rs[i0 + (((i - 1 : Nat) : Int)).toNat]? = some z.row := by rw [Int.toNat_natCast]; exact hrz0
                  have hi1 : i - 1 + 1 = i := by omega
                  cases hls : decide (compareF x z < 0) with
                  | true =>
                    have hev := tabOk_unord hz (by rw [hi1]; exact hx) (by simpa using hls)
                    repeat' (first | dsimp only [putD, DV.cells, DH.new_next, DH.set_next, List.length_cons, List.length_nil, Nat.reduceAdd, List.set_cons_zero, List.set_cons_succ, getD_zero, getD_succ, fieldAt_zero, fieldAt_succ, thenD, blockD, retR] | refine dwp_drawr _ rfl (fun H' => Above H H' ∧ H'.obj b4 = some (.rows false 4 [x.row])) ⟨hB.ab, hB.get At.here⟩ ?_ | apply drawr_nil | (apply drawr_read; (· (first | exact wanted_plain rfl | (apply wanted_on; (· exact rfl); (· exact rfl); (· (with_reducible first | assumption | rfl | decide))))); (· exact rfl); (· exact rfl); (· intro H' h; exact opD_load rfl rfl h.2 rfl (by first | exact partInjR x | exact rfl))) | (apply drawr_read; (· (first | exact wanted_plain rfl | (apply wanted_on; (· exact rfl); (· exact rfl); (· (with_reducible first | assumption | rfl | decide))))); (· exact rfl); (· exact rfl); (· intro H' h; exact opD_load rfl rfl (h.1.obj hloc ho) hrz (partInjR z))) | (apply drawr_pure; (· (first | exact wanted_plain rfl | (apply wanted_on; (· exact rfl); (· exact rfl); (· (with_reducible first | assumption | rfl | decide))))); (· exact rfl); (· exact rfl); (· exact opD_index rfl rfl rfl rfl rfl hinz)) | (apply drawr_pure; (· (first | exact wanted_plain rfl | (apply wanted_on; (· exact rfl); (· exact rfl); (· (with_reducible first | assumption | rfl | decide))))); (· exact rfl); (· exact rfl); (· exact opD_told' rfl (congrArg (DV.int _) hwz))) | (apply drawr_pick_t'; (· (first | exact wanted_plain rfl | (apply wanted_on; (· exact rfl); (· exact rfl); (· (with_reducible first | assumption | rfl | decide))))); (· exact rfl); (· exact rfl); (· (with_reducible first | assumption | rfl | decide)); (· exact rfl)) | (apply drawr_pick_f'; (· (first | exact wanted_plain rfl | (apply wanted_on; (· exact rfl); (· exact rfl); (· (with_reducible first | assumption | rfl | decide))))); (· exact rfl); (· exact rfl); (· (with_reducible first | assumption | rfl | decide)); (· exact rfl)) | (apply drawr_pure; (· (first | exact wanted_plain rfl | (apply wanted_on; (· exact rfl); (· exact rfl); (· (with_reducible first | assumption | rfl | decide))))); (· exact rfl); (· exact rfl); (· exact rfl)) | (apply drawr_move; (· (first | exact wanted_plain rfl | (apply wanted_on; (· exact rfl); (· exact rfl); (· (with_reducible first | assumption | rfl | decide))))); (· exact rfl)) | apply dwp_seq | apply dwp_region | apply ops_nil | (apply ops_plain; (· exact rfl)) | (apply op_call; (· exact rfl); (· exact rfl); (· exact rfl); (refine (less66 x z _).mono ?_; rintro r H' ⟨rfl, hab⟩; replace hB := hB.grow hab; refine ⟨⟨hB.ab, hB.get At.here⟩, ?_⟩)) | (apply op_at; (· exact rfl)) | (apply dwp_cond_t; (· exact rfl); (· (with_reducible first | assumption | rfl | decide))) | (apply dwp_cond_f; (· exact rfl); (· (with_reducible first | assumption | rfl | decide))) | apply dwp_skip | apply dwp_ret | (refine ⟨_, rfl, ?_⟩) | fail)
                    exact ⟨by rw [hev]; rfl, hB.ab⟩
                  | false =>
                    repeat' (first | dsimp only [putD, DV.cells, DH.new_next, DH.set_next, List.length_cons, List.length_nil, Nat.reduceAdd, List.set_cons_zero, List.set_cons_succ, getD_zero, getD_succ, fieldAt_zero, fieldAt_succ, thenD, blockD, retR] | refine dwp_drawr _ rfl (fun H' => Above H H' ∧ H'.obj b4 = some (.rows false 4 [x.row])) ⟨hB.ab, hB.get At.here⟩ ?_ | apply drawr_nil | (apply drawr_read; (· (first | exact wanted_plain rfl | (apply wanted_on; (· exact rfl); (· exact rfl); (· (with_reducible first | assumption | rfl | decide))))); (· exact rfl); (· exact rfl); (· intro H' h; exact opD_load rfl rfl h.2 rfl (by first | exact partInjR x | exact rfl))) | (apply drawr_read; (· (first | exact wanted_plain rfl | (apply wanted_on; (· exact rfl); (· exact rfl); (· (with_reducible first | assumption | rfl | decide))))); (· exact rfl); (· exact rfl); (· intro H' h; exact opD_load rfl rfl (h.1.obj hloc ho) hrz (partInjR z))) | (apply drawr_pure; (· (first | exact wanted_plain rfl | (apply wanted_on; (· exact rfl); (· exact rfl); (· (with_reducible first | assumption | rfl | decide))))); (· exact rfl); (· exact rfl); (· exact opD_index rfl rfl rfl rfl rfl hinz)) | (apply drawr_pure; (· (first | exact wanted_plain rfl | (apply wanted_on; (· exact rfl); (· exact rfl); (· (with_reducible first | assumption | rfl | decide))))); (· exact rfl); (· exact rfl); (· exact opD_told' rfl (congrArg (DV.int _) hwz))) | (apply drawr_pick_t'; (· (first | exact wanted_plain rfl | (apply wanted_on; (· exact rfl); (· exact rfl); (· (with_reducible first | assumption | rfl | decide))))); (· exact rfl); (· exact rfl); (· (with_reducible first | assumption | rfl | decide)); (· exact rfl)) | (apply drawr_pick_f'; (· (first | exact wanted_plain rfl | (apply wanted_on; (· exact rfl); (· exact rfl); (· (with_reducible first | assumption | rfl | decide))))); (· exact rfl); (· exact rfl); (· (with_reducible first | assumption | rfl | decide)); (· exact rfl)) | (apply drawr_pure; (· (first | exact wanted_plain rfl | (apply wanted_on; (· exact rfl); (· exact rfl); (· (with_reducible first | assumption | rfl | decide))))); (· exact rfl); (· exact rfl); (· exact rfl)) | (apply drawr_move; (· (first | exact wanted_plain rfl | (apply wanted_on; (· exact rfl); (· exact rfl); (· (with_reducible first | assumption | rfl | decide))))); (· exact rfl)) | apply dwp_seq | apply dwp_region | apply ops_nil | (apply ops_plain; (· exact rfl)) | (apply op_call; (· exact rfl); (· exact rfl); (· exact rfl); (refine (less66 x z _).mono ?_; rintro r H' ⟨rfl, hab⟩; replace hB := hB.grow hab; refine ⟨⟨hB.ab, hB.get At.here⟩, ?_⟩)) | (apply op_told; (· exact rfl); (· exact congrArg (DV.int _) hw)) | (apply op_at; (· exact rfl)) | (apply dwp_cond_f; (· exact rfl); (· (with_reducible first | assumption | rfl | decide))) | apply dwp_skip | fail)
                    refine ⟨⟨_, i + 1, junk_facts ⟨hB.drop1, by omega, fun j u hj hu => ?_, fun j u v hj hu hv => ?_⟩ rfl rfl⟩, ?_⟩
                    · rcases Nat.lt_succ_iff_lt_or_eq.mp hj with h | rfl
                      · exact hq1 j u h hu
                      · rw [hx] at hu; cases hu; exact hof
                    · rcases Nat.lt_succ_iff_lt_or_eq.mp hj with h | h
                      · exact hq2 j u v h hu hv
                      · have hj' : j = i - 1 := by omega
                        subst hj'
                        rw [hz] at hu; cases hu
                        rw [hi1, hx] at hv; cases hv
                        simpa using hls
                    · show l.length - ((i + 1 : Nat) : Int).toNat < l.length - (i : Int).toNat
                      omega
            | false =>
              have hof : offF x = false := by rw [← refOff_eq, h6]; simp only [refOff8, d1, d2, if_true, Bool.false_eq_true, if_false, Bool.true_or, Bool.false_or, Bool.true_and, Bool.false_and, Bool.not_true, Bool.not_false, Bool.or_true, Bool.or_false, Bool.and_true, Bool.and_false]
              by_cases h0 : i = 0
              · have hp0 : decide ((i : Int) > 0) = false := by subst h0; rfl
                repeat' (first | dsimp only [putD, DV.cells, DH.new_next, DH.set_next, List.length_cons, List.length_nil, Nat.reduceAdd, List.set_cons_zero, List.set_cons_succ, getD_zero, getD_succ, fieldAt_zero, fieldAt_succ, thenD, blockD, retR] | refine dwp_drawr _ rfl (fun H' => Above H H' ∧ H'.obj b4 = some (.rows false 4 [x.row])) ⟨hB.ab, hB.get At.here⟩ ?_ | apply drawr_nil | (apply drawr_read; (· (first | exact wanted_plain rfl | (apply wanted_on; (· exact rfl); (· exact rfl); (· (with_reducible first | assumption | rfl | decide))))); (· exact rfl); (· exact rfl); (· intro H' h; exact opD_load rfl rfl h.2 rfl (by first | exact partInjR x | exact rfl))) | (apply drawr_pick_f'; (· (first | exact wanted_plain rfl | (apply wanted_on; (· exact rfl); (· exact rfl); (· (with_reducible first | assumption | rfl | decide))))); (· exact rfl); (· exact rfl); (· (with_reducible first | assumption | rfl | decide)); (· exact rfl)) | (apply drawr_pure; (· (first | exact wanted_plain rfl | (apply wanted_on; (· exact rfl); (· exact rfl); (· (with_reducible first | assumption | rfl | decide))))); (· exact rfl); (· exact rfl); (· exact rfl)) | (apply drawr_off; (· (first | (apply wanted_off1; (· exact rfl); (· exact rfl); (· (with_reducible first | assumption | rfl | decide))) | (apply wanted_off0; (· exact rfl); (· exact rfl); (· (with_reducible first | assumption | rfl | decide))) | (apply wanted_none; (· exact rfl); (· exact rfl))))) | apply dwp_seq | apply dwp_region | apply ops_nil | (apply ops_plain; (· exact rfl)) | (apply op_told; (· exact rfl); (· exact congrArg (DV.int _) hw)) | (apply op_at; (· exact rfl)) | (apply dwp_cond_f; (· exact rfl); (· (with_reducible first | assumption | rfl | decide))) | apply dwp_skip | fail)
                refine ⟨⟨_, i + 1, junk_facts ⟨hB.drop1, by omega, fun j u hj hu => ?_, fun j u v hj hu hv => ?_⟩ rfl rfl⟩, ?_⟩
                · rcases Nat.lt_succ_iff_lt_or_eq.mp hj with h | rfl
                  · exact hq1 j u h hu
                  · rw [hx] at hu; cases hu; exact hof
                · rcases Nat.lt_succ_iff_lt_or_eq.mp hj with h | h
                  · exact hq2 j u v h hu hv
                  · omega
                · show l.length - ((i + 1 : Nat) : Int).toNat < l.length - (i : Int).toNat
                  omega
              · obtain ⟨z, hz⟩ : ∃ z, l[i - 1]? = some z := ⟨_, List.getElem?_eq_getElem (by omega)⟩
                have hp0 : decide ((i : Int) > 0) = true := by simp; omega
                have hwz : IntKind.i64.wrap ((i : Int) - 1) = ((i - 1 : Nat) : Int) := by rw [wrapI (by omega)]; omega
                have hinz : 0 ≤ ((i - 1 : Nat) : Int) ∧ ((i - 1 : Nat) : Int) < (l.length : Int) := by omega
                have hrz0 := hall (i - 1) z.row (by rw [List.getElem?_map, hz]; rfl)
                have hrz : rs[i0 + (((i - 1 : Nat) : Int)).toNat]? = some z.row := by rw [Int.toNat_natCast]; exact hrz0
                have hi1 : i - 1 + 1 = i := by omega
                cases hls : decide (compareF x z < 0) with
                | true =>
                  have hev := tabOk_unord hz (by rw [hi1]; exact hx) (by simpa using hls)
                  repeat' (first | dsimp only [putD, DV.cells, DH.new_next, DH.set_next, List.length_cons, List.length_nil, Nat.reduceAdd, List.set_cons_zero, List.set_cons_succ, getD_zero, getD_succ, fieldAt_zero, fieldAt_succ, thenD, blockD, retR] | refine dwp_drawr _ rfl (fun H' => Above H H' ∧ H'.obj b4 = some (.rows false 4 [x.row])) ⟨hB.ab, hB.get At.here⟩ ?_ | apply drawr_nil | (apply drawr_read; (· (first | exact wanted_plain rfl | (apply wanted_on; (· exact rfl); (· exact rfl); (· (with_reducible first | assumption | rfl | decide))))); (· exact rfl); (· exact rfl); (· intro H' h; exact opD_load rfl rfl h.2 rfl (by first | exact partInjR x | exact rfl))) | (apply drawr_read; (· (first | exact wanted_plain rfl | (apply wanted_on; (· exact rfl); (· exact rfl); (· (with_reducible first | assumption | rfl | decide))))); (· exact rfl); (· exact rfl); (· intro H' h; exact opD_load rfl rfl (h.1.obj hloc ho) hrz (partInjR z))) | (apply drawr_pure; (· (first | exact wanted_plain rfl | (apply wanted_on; (· exact rfl); (· exact rfl); (· (with_reducible first | assumption | rfl | decide))))); (· exact rfl); (· exact rfl); (· exact opD_index rfl rfl rfl rfl rfl hinz)) | (apply drawr_pure; (· (first | exact wanted_plain rfl | (apply wanted_on; (· exact rfl); (· exact rfl); (· (with_reducible first | assumption | rfl | decide))))); (· exact rfl); (· exact rfl); (· exact opD_told' rfl (congrArg (DV.int _) hwz))) | (apply drawr_pick_t'; (· (first | exact wanted_plain rfl | (apply wanted_on; (· exact rfl); (· exact rfl); (· (with_reducible first | assumption | rfl | decide))))); (· exact rfl); (· exact rfl); (· (with_reducible first | assumption | rfl | decide)); (· exact rfl)) | (apply drawr_pick_f'; (· (first | exact wanted_plain rfl | (apply wanted_on; (· exact rfl); (· exact rfl); (· (with_reducible first | assumption | rfl | decide))))); (· exact rfl); (· exact rfl); (· (with_reducible first | assumption | rfl | decide)); (· exact rfl)) | (apply drawr_pure; (· (first | exact wanted_plain rfl | (apply wanted_on; (· exact rfl); (· exact rfl); (· (with_reducible first | assumption | rfl | decide))))); (· exact rfl); (· exact rfl); (· exact rfl)) | (apply drawr_move; (· (first | exact wanted_plain rfl | (apply wanted_on; (· exact rfl); (· exact rfl); (· (with_reducible first | assumption | rfl | decide))))); (· exact rfl)) | (apply drawr_off; (· (first | (apply wanted_off1; (· exact rfl); (· exact rfl); (· (with_reducible first | assumption | rfl | decide))) | (apply wanted_off0; (· exact rfl); (· exact rfl); (· (with_reducible first | assumption | rfl | decide))) | (apply wanted_none; (· exact rfl); (· exact rfl))))) | apply dwp_seq | apply dwp_region | apply ops_nil | (apply ops_plain; (· exact rfl)) | (apply op_call; (· exact rfl); (· exact rfl); (· exact rfl); (refine (less66 x z _).mono ?_; rintro r H' ⟨rfl, hab⟩; replace hB := hB.grow hab; refine ⟨⟨hB.ab, hB.get At.here⟩, ?_⟩)) | (apply op_at; (· exact rfl)) | (apply dwp_cond_t; (· exact rfl); (· (with_reducible first | assumption | rfl | decide))) | (apply dwp_cond_f; (· exact rfl); (· (with_reducible first | assumption | rfl | decide))) | apply dwp_skip | apply dwp_ret | (refine ⟨_, rfl, ?_⟩) | fail)
                  exact ⟨by rw [hev]; rfl, hB.ab⟩
                | false =>
                  repeat' (first | dsimp only [putD, DV.cells, DH.new_next, DH.set_next, List.length_cons, List.length_nil, Nat.reduceAdd, List.set_cons_zero, List.set_cons_succ, getD_zero, getD_succ, fieldAt_zero, fieldAt_succ, thenD, blockD, retR] | refine dwp_drawr _ rfl (fun H' => Above H H' ∧ H'.obj b4 = some (.rows false 4 [x.row])) ⟨hB.ab, hB.get At.here⟩ ?_ | apply drawr_nil | (apply drawr_read; (· (first | exact wanted_plain rfl | (apply wanted_on; (· exact rfl); (· exact rfl); (· (with_reducible first | assumption | rfl | decide))))); (· exact rfl); (· exact rfl); (· intro H' h; exact opD_load rfl rfl h.2 rfl (by first | exact partInjR x | exact rfl))) | (apply drawr_read; (· (first | exact wanted_plain rfl | (apply wanted_on; (· exact rfl); (· exact rfl); (· (with_reducible first | assumption | rfl | decide))))); (· exact rfl); (· exact rfl); (· intro H' h; exact opD_load rfl rfl (h.1.obj hloc ho) hrz (partInjR z))) | (apply drawr_pure; (· (first | exact wanted_plain rfl | (apply wanted_on; (· exact rfl); (· exact rfl); (· (with_reducible first | assumption | rfl | decide))))); (· exact rfl); (· exact rfl); (· exact opD_index rfl rfl rfl rfl rfl hinz)) | (apply drawr_pure; (· (first | exact wanted_plain rfl | (apply wanted_on; (· exact rfl); (· exact rfl); (· (with_reducible first | assumption | rfl | decide))))); (· exact rfl); (· exact rfl); (· exact opD_told' rfl (congrArg (DV.int _) hwz))) | (apply drawr_pick_t'; (· (first | exact wanted_plain rfl | (apply wanted_on; (· exact rfl); (· exact rfl); (· (with_reducible first | assumption | rfl | decide))))); (· exact rfl); (· exact rfl); (· (with_reducible first | assumption | rfl | decide)); (· exact rfl)) | (apply drawr_pick_f'; (· (first | exact wanted_plain rfl | (apply wanted_on; (· exact rfl); (· exact rfl); (· (with_reducible first | assumption | rfl | decide))))); (· exact rfl); (· exact rfl); (· (with_reducible first | assumption | rfl | decide)); (· exact rfl)) | (apply drawr_pure; (· (first | exact wanted_plain rfl | (apply wanted_on; (· exact rfl); (· exact rfl); (· (with_reducible first | assumption | rfl | decide))))); (· exact rfl); (· exact rfl); (· exact rfl)) | (apply drawr_move; (· (first | exact wanted_plain rfl | (apply wanted_on; (· exact rfl); (· exact rfl); (· (with_reducible first | assumption | rfl | decide))))); (· exact rfl)) | (apply drawr_off; (· (first | (apply wanted_off1; (· exact rfl); (· exact rfl); (· (with_reducible first | assumption | rfl | decide))) | (apply wanted_off0; (· exact rfl); (· exact rfl); (· (with_reducible first | assumption | rfl | decide))) | (apply wanted_none; (· exact rfl); (· exact rfl))))) | apply dwp_seq | apply dwp_region | apply ops_nil | (apply ops_plain; (· exact rfl)) | (apply op_call; (· exact rfl); (· exact rfl); (· exact rfl); (refine (less66 x z _).mono ?_; rintro r H' ⟨rfl, hab⟩; replace hB := hB.grow hab; refine ⟨⟨hB.ab, hB.get At.here⟩, ?_⟩)) | (apply op_told; (· exact rfl); (· exact congrArg (DV.int _) hw)) | (apply op_at; (· exact rfl)) | (apply dwp_cond_f; (· exact rfl); (· (with_reducible first | assumption | rfl | decide))) | apply dwp_skip | fail)
                  refine ⟨⟨_, i + 1, junk_facts ⟨hB.drop1, by omega, fun j u hj hu => ?_, fun j u v hj hu hv => ?_⟩ rfl rfl⟩, ?_⟩
                  · rcases Nat.lt_succ_iff_lt_or_eq.mp hj with h | rfl
                    · exact hq1 j u h hu
                    · rw [hx] at hu; cases hu; exact hof
                  · rcases Nat.lt_succ_iff_lt_or_eq.mp hj with h | h
                    · exact hq2 j u v h hu hv
                    · have hj' : j = i - 1 := by omega
                      subst hj'
                      rw [hz] at hu; cases hu
                      rw [hi1, hx] at hv; cases hv
                      simpa using hls
                  · show l.length - ((i + 1 : Nat) : Int).toNat < l.length - (i : Int).toNat
                    omega
    · have hie : i = l.length := by omega
      subst hie
      have hc : decide ((l.length : Int) < (l.length : Int)) = false := by simp
      have hev := tabOk_all hl2 (fun j y hy => hq1 j y (List.getElem?_eq_some_iff.mp hy).1 hy) (fun j x y hx hy => hq2 j x y (List.getElem?_eq_some_iff.mp hy).1 hx hy)
      repeat' (first | dsimp only [putD, DV.cells, DH.new_next, DH.set_next, List.length_cons, List.length_nil, Nat.reduceAdd, List.set_cons_zero, List.set_cons_succ, getD_zero, getD_succ, fieldAt_zero, fieldAt_succ, thenD, blockD, retR] | apply dwp_seq | apply dwp_region | apply ops_nil | (apply ops_plain; (· exact rfl)) | (apply op_at; (· exact rfl)) | (apply dwp_cond_f; (· exact rfl); (· (with_reducible first | assumption | rfl | decide))) | apply dwp_ret | apply dwp_exit | (refine ⟨_, rfl, ?_⟩) | fail)
      exact ⟨by rw [hev]; rfl, hB.ab⟩
end Go.Det.C

/- Cover: the reference's Text. -/
namespace Go.Det.C
open Go Go.Det Go.Proofs
set_option maxRecDepth 4000
set_option maxHeartbeats 4000000
set_option linter.unusedVariables false
set_option linter.unusedSimpArgs false
theorem et96 : ElemT Tryd.prog 96 9 1 16 (.str []) := ⟨rfl, rfl, rfl, by kernel_rfl, by decide, by decide, rfl, rfl⟩
theorem word45 {k : Int} (hk : 1 ≤ k ∧ k ≤ 5) (H : DH) : CallWp Tryd.prog X3 45 [.int .i64 k] H (fun r H' => r = .str (faultF k) ∧ Above H H') := by
  have hB : Bx H H [] [] := Bx.init (fun f hf => by cases hf)
  have hk5 : k = 1 ∨ k = 2 ∨ k = 3 ∨ k = 4 ∨ k = 5 := by omega
  have hin : 0 ≤ k ∧ k < ((6 : Nat) : Int) := by omega
  have hrow : ([[DV.str []], [DV.str [115, 105, 108, 101, 110, 99, 101]], [DV.str [99, 111, 114, 114, 117, 112, 116]], [DV.str [99, 117, 116]], [DV.str [98, 97, 98, 98, 108, 101]], [DV.str [99, 114, 97, 115, 104]]] : List (List DV))[0 + k.toNat]? = some [DV.str (faultF k)] := by
    rcases hk5 with rfl | rfl | rfl | rfl | rfl <;> rfl
  refine enter rfl Tryd.func45 rfl Tryd.ntmps45 rfl ?_
  dsimp only [List.cons_append, List.nil_append, List.length_cons, List.length_nil, List.replicate_succ, List.replicate_zero, Nat.reduceAdd, Nat.reduceSub]
  repeat' (first | dsimp only [putD, DV.cells, DH.new_next, DH.set_next, List.length_cons, List.length_nil, Nat.reduceAdd, List.set_cons_zero, List.set_cons_succ, getD_zero, getD_succ, fieldAt_zero, fieldAt_succ, thenD, blockD, retR] | apply dwp_seq | apply dwp_region | apply ops_nil | (apply ops_plain; (· exact rfl)) | (apply bx_buildL et96; (· exact rfl); (· exact rfl); (· exact rfl); (· decide); (· assumption); intro bk H1 hB) | (apply op_index_at; (· exact rfl); (· exact rfl); (· exact rfl); (· with_reducible exact hin); (· exact rfl); (· exact rfl)) | (apply op_load_at; (· exact rfl); (· exact rfl); (· exact hB.get At.here); (· exact hrow); (· exact rfl)) | (apply op_at; (· exact rfl)) | apply dwp_ret | (refine ⟨_, rfl, ?_⟩) | fail)
  exact ⟨rfl, hB.ab⟩
theorem text19 {l : List Fire} {p : Option (Nat × Nat × Nat)} {c : Nat} {ex : Bool} {H : DH} (hll : l.length ≤ 100000) (hs : Sl H 7 (l.map Fire.row) p) :
    CallWp Tryd.prog X10 19 [.sl p l.length c ex] H (fun r H' => r = textR l ∧ Above H H') := by
  have hB : Bx H H [] [] := Bx.init (fun f hf => by cases hf)
  refine enter rfl Tryd.func19 rfl Tryd.ntmps19 rfl ?_
  dsimp only [List.cons_append, List.nil_append, List.length_cons, List.length_nil, List.replicate_succ, List.replicate_zero, Nat.reduceAdd, Nat.reduceSub]
  repeat' (first | dsimp only [putD, DV.cells, DH.new_next, DH.set_next, List.length_cons, List.length_nil, Nat.reduceAdd, List.set_cons_zero, List.set_cons_succ, getD_zero, getD_succ, fieldAt_zero, fieldAt_succ, thenD, blockD, retR] | apply dwp_seq | apply dwp_region | apply ops_nil | (apply ops_plain; (· exact rfl)) | (apply op_at; (· exact rfl)) | apply dwp_block | fail)
  refine dwp_loop (fun st => ∃ (H1 : DH) (i : Nat) (acc : List UInt8), ∃ J : Nat → DV, (Bx H H1 [] [] ∧ i ≤ l.length ∧ acc = (l.take i).flatMap lineF ∧ acc.length ≤ 100 * i ∧ ∀ f ∈ l.take i, goodB f = true) ∧ st = ⟨(.sl p l.length c ex :: J 1 :: J 2 :: J 3 :: .str acc :: J 5 :: J 6 :: J 7 :: J 8 :: J 9 :: J 10 :: J 11 :: J 12 :: .sl p l.length c ex :: .int .i64 (l.length : Int) :: .int .i64 (i : Int) :: J 16 :: J 17 :: J 18 :: J 19 :: J 20 :: J 21 :: J 22 :: J 23 :: J 24 :: J 25 :: J 26 :: J 27 :: J 28 :: J 29 :: J 30 :: J 31 :: J 32 :: J 33 :: J 34 :: J 35 :: J 36 :: J 37 :: J 38 :: J 39 :: J 40 :: J 41 :: J 42 :: J 43 :: J 44 :: J 45 :: J 46 :: J 47 :: J 48 :: J 49 :: J 50 :: J 51 :: J 52 :: J 53 :: J 54 :: J 55 :: J 56 :: J 57 :: J 58 :: J 59 :: J 60 :: J 61 :: J 62 :: J 63 :: J 64 :: J 65 :: J 66 :: J 67 :: J 68 :: J 69 :: J 70 :: J 71 :: J 72 :: J 73 :: J 74 :: J 75 :: J 76 :: J 77 :: J 78 :: J 79 :: J 80 :: J 81 :: J 82 :: J 83 :: J 84 :: J 85 :: J 86 :: J 87 :: J 88 :: J 89 :: J 90 :: J 91 :: J 92 :: []), H1⟩) (fun st => l.length - kOf st 15) (⟨_, 0, [], junk_facts (⟨hB, Nat.zero_le _, rfl, Nat.le_refl _, by simp⟩) rfl rfl⟩) ?_
  rintro st ⟨H1, i, acc, J, ⟨hB, hi, hacc, hal, hgd⟩, rfl⟩
  by_cases hlt : i < l.length
  · obtain ⟨f, hf⟩ : ∃ f, l[i]? = some f := ⟨l[i], List.getElem?_eq_getElem hlt⟩
    obtain ⟨loc, i0, ro, rs, rfl, hloc, ho, hrx⟩ := hs.rd (k := i) (r := f.row) (by rw [List.getElem?_map, hf]; rfl)
    have hr1 : rs[i0 + ((i : Int)).toNat]? = some f.row := by rw [Int.toNat_natCast]; exact hrx
    have hc : decide ((i : Int) < (l.length : Int)) = true := by simp [hlt]
    have hin1 : 0 ≤ (i : Int) ∧ (i : Int) < (l.length : Int) := by omega
    have hw : IntKind.i64.wrap ((i : Int) + 1) = ((i + 1 : Nat) : Int) := by rw [wrapI (by omega)]; rfl
    cases hof : offF f.x with
    | true =>
      have htab := tab_bad hof
      have hrb := textR_bad hf (by unfold goodB; rw [hof]; rfl)
      repeat' (first | dsimp only [putD, DV.cells, DH.new_next, DH.set_next, List.length_cons, List.length_nil, Nat.reduceAdd, List.set_cons_zero, List.set_cons_succ, getD_zero, getD_succ, fieldAt_zero, fieldAt_succ, thenD, blockD, retR] | apply dwp_seq | apply dwp_region | apply ops_nil | (apply ops_plain; (· exact rfl)) | (apply ops_off0; (· exact rfl); (· exact rfl); (· (with_reducible first | assumption | rfl | decide))) | (apply op_call; (· exact rfl); (· exact rfl); (· exact rfl); (refine CallWp.up up310 ((check35 (l := [f.x]) (by simp) (.at (hB.obj _ List.mem_cons_self).2.1 (hB.get At.here) (Nat.le_refl _) rfl)).mono ?_); rintro r H' ⟨rfl, hab⟩; replace hB := hB.grow hab; simp only [htab, if_true, Bool.false_eq_true, if_false])) | (apply op_pick_t; (· exact rfl); (· exact rfl); (· (with_reducible first | assumption | rfl | decide)); (· exact rfl)) | (apply op_index_at; (· exact rfl); (· exact rfl); (· exact rfl); (· with_reducible exact hin1); (· exact rfl); (· exact rfl)) | (apply op_load_at; (· exact rfl); (· exact rfl); (· exact hB.ab.obj hloc ho); (· exact hr1); (· exact partFireR f)) | (apply bx_buildL et22; (· exact rfl); (· exact rfl); (· exact rfl); (· decide); (· assumption); intro bk H1 hB) | (apply bx_load0; (· exact rfl); (· exact rfl); (· assumption); (· (repeat (first | with_reducible exact At.here | with_reducible apply At.there))); (· (first | exact partFireR _ | exact partInjF _ | exact rfl))) | (apply bx_store0; (· exact rfl); (· exact rfl); (· exact rfl); (· assumption); (· (first | (dsimp only [DV.cells, getD_zero, getD_succ, Sv.cells]; done) | (dsimp only [DV.cells, getD_zero, getD_succ, Sv.cells]; exact rfl) | exact rfl)); (· (repeat (first | with_reducible exact Upd.here | with_reducible apply Upd.there))); (· exact rfl); (· exact rfl); (· exact rfl); (· exact rfl); intro H1 hB) | (apply bx_alloc; (· exact rfl); (· exact zero32); (· (first | (dsimp only [DV.cells, getD_zero, getD_succ, Sv.cells]; done) | (dsimp only [DV.cells, getD_zero, getD_succ, Sv.cells]; exact rfl) | exact rfl)); (· exact rfl); (· exact rfl); (· exact rfl); (· assumption); intro b6 H1 hB) | (apply op_at; (· exact rfl)) | (apply dwp_cond_t; (· exact rfl); (· (with_reducible first | assumption | rfl | decide))) | apply dwp_block | apply dwp_skip | apply dwp_ret | (refine ⟨_, rfl, ?_⟩) | fail)
      exact ⟨by rw [hrb]; rfl, hB.ab⟩
    | false =>
      have hgt := fit_bounds (offF_fit hof)
      have htab := tab_one hof
      cases hfa : fitB f.at' with
      | false =>
        have hal1 : (!([f.at'].all fitB)) = true := by simp [hfa]
        have hrb := textR_bad hf (by unfold goodB; rw [hof, hfa]; rfl)
        repeat' (first | dsimp only [putD, DV.cells, DH.new_next, DH.set_next, List.length_cons, List.length_nil, Nat.reduceAdd, List.set_cons_zero, List.set_cons_succ, getD_zero, getD_succ, fieldAt_zero, fieldAt_succ, thenD, blockD, retR] | apply dwp_seq | apply dwp_region | apply ops_nil | (apply ops_plain; (· exact rfl)) | (apply ops_on; (· exact rfl); (· exact rfl); (· (with_reducible first | assumption | rfl | decide))) | (apply op_call; (· exact rfl); (· exact rfl); (· exact rfl); (refine CallWp.up up310 ((check35 (l := [f.x]) (by simp) (.at (hB.obj _ List.mem_cons_self).2.1 (hB.get At.here) (Nat.le_refl _) rfl)).mono ?_); rintro r H' ⟨rfl, hab⟩; replace hB := hB.grow hab; simp only [htab, if_true, Bool.false_eq_true, if_false])) | (apply op_call; (· exact rfl); (· exact rfl); (· exact rfl); (refine CallWp.up up310 ((may43e (l := [f.at']) (.one (Bx.get (by assumption) At.here))).mono ?_); rintro r H' ⟨rfl, rfl⟩)) | (apply op_pick_f; (· exact rfl); (· exact rfl); (· (with_reducible first | assumption | rfl | decide)); (· exact rfl)) | (apply op_index_at; (· exact rfl); (· exact rfl); (· exact rfl); (· with_reducible exact hin1); (· exact rfl); (· exact rfl)) | (apply op_load_at; (· exact rfl); (· exact rfl); (· exact hB.ab.obj hloc ho); (· exact hr1); (· exact partFireR f)) | (apply bx_buildL et22; (· exact rfl); (· exact rfl); (· exact rfl); (· decide); (· assumption); intro bk H1 hB) | (apply bx_buildL et112'; (· exact rfl); (· exact rfl); (· exact rfl); (· decide); (· assumption); intro bk2 H1 hB) | (apply bx_load0; (· exact rfl); (· exact rfl); (· assumption); (· (repeat (first | with_reducible exact At.here | with_reducible apply At.there))); (· (first | exact partFireR _ | exact partInjF _ | exact rfl))) | (apply bx_store0; (· exact rfl); (· exact rfl); (· exact rfl); (· assumption); (· (first | (dsimp only [DV.cells, getD_zero, getD_succ, Sv.cells]; done) | (dsimp only [DV.cells, getD_zero, getD_succ, Sv.cells]; exact rfl) | exact rfl)); (· (repeat (first | with_reducible exact Upd.here | with_reducible apply Upd.there))); (· exact rfl); (· exact rfl); (· exact rfl); (· exact rfl); intro H1 hB) | (apply bx_alloc; (· exact rfl); (· exact zero32); (· (first | (dsimp only [DV.cells, getD_zero, getD_succ, Sv.cells]; done) | (dsimp only [DV.cells, getD_zero, getD_succ, Sv.cells]; exact rfl) | exact rfl)); (· exact rfl); (· exact rfl); (· exact rfl); (· assumption); intro b6 H1 hB) | (apply op_at; (· exact rfl)) | (apply dwp_cond_t; (· exact rfl); (· (with_reducible first | assumption | rfl | decide))) | apply dwp_block | apply dwp_skip | apply dwp_ret | (refine ⟨_, rfl, ?_⟩) | fail)
        exact ⟨by rw [hrb]; rfl, hB.ab⟩
      | true =>
        have hal1 : (!([f.at'].all fitB)) = false := by simp [hfa]
        have hgf := good_of hof hfa
        have hgB : goodB f = true := by unfold goodB; rw [hof, hfa]; rfl
        have hga := hgf.a
        obtain ⟨hk1, hk2, hw1, hw2⟩ := offF_k hof
        have hk15 : 1 ≤ f.x.k ∧ f.x.k ≤ 5 := ⟨hk1, hk2⟩
        have hwb : -1152921504606846977 < f.x.w ∧ f.x.w < 1152921504606846977 := by omega
        have hacc' : acc ++ lineF f = (l.take (i + 1)).flatMap lineF := by rw [List.take_add_one, hf, List.flatMap_append, ← hacc]; simp
        obtain ⟨hl0, hl1⟩ := lineF_len hgf ⟨hw1, hw2⟩
        have p1 := ptextF_len hgf.t
        have p2 := ptextF_len hgf.a
        have p3 := faultF_len f.x.k
        have p4 := decF_len hw1 (by omega)
        have hgd' : ∀ g ∈ l.take (i + 1), goodB g = true := by
          rw [List.take_add_one, hf]
          intro g hg
          rcases List.mem_append.mp hg with h | h
          · exact hgd g h
          · simp at h; rw [h]; exact hgB
        cases hfi : f.fired with
        | true =>
          cases hde : f.det with
          | true =>
            have hcm : cameF f = [32, 102, 105, 114, 101, 100] ++ ([32, 97, 116, 32] ++ ptextF f.at') := by unfold cameF; rw [hfi, hde]; rfl
            have hln : (((acc ++ (faultF f.x.k ++ [32] ++ decF f.x.w ++ [32] ++ ptextF f.x.t)) ++ [32, 102, 105, 114, 101, 100]) ++ ([32, 97, 116, 32] ++ ptextF f.at')) ++ [10] = acc ++ lineF f := by unfold lineF; rw [hcm]; simp only [List.append_assoc]
            repeat' (first | dsimp only [putD, DV.cells, DH.new_next, DH.set_next, List.length_cons, List.length_nil, Nat.reduceAdd, List.set_cons_zero, List.set_cons_succ, getD_zero, getD_succ, fieldAt_zero, fieldAt_succ, thenD, blockD, retR] | (refine dwp_drawr _ rfl (fun H' => Above H H' ∧ H'.obj b6 = some (.rows false 7 [f.row])) ⟨hB.ab, (show Bx H _ [(b6, .rows false 7 [f.row])] [] from hB.sub (by (repeat (first | exact List.Sublist.refl _ | exact List.nil_sublist _ | apply List.Sublist.cons_cons | apply List.Sublist.cons | apply List.Sublist.append_left | refine List.Sublist.trans ?_ (List.sublist_append_right _ _))))).get At.here⟩ ?_; have hBb : Bx H _ [(b6, .rows false 7 [f.row])] [] := hB.sub (by (repeat (first | exact List.Sublist.refl _ | exact List.nil_sublist _ | apply List.Sublist.cons_cons | apply List.Sublist.cons | apply List.Sublist.append_left | refine List.Sublist.trans ?_ (List.sublist_append_right _ _)))); replace hB := hBb) | apply drawr_nil | (apply drawr_read; (· (first | exact wanted_plain rfl | (apply wanted_on; (· exact rfl); (· exact rfl); (· (with_reducible first | assumption | rfl | decide))))); (· exact rfl); (· exact rfl); (· intro H' h; exact opD_load rfl rfl h.2 rfl (by (first | exact partFireR _ | exact partInjF _ | exact rfl)))) | (apply drawr_pure; (· (first | exact wanted_plain rfl | (apply wanted_on; (· exact rfl); (· exact rfl); (· (with_reducible first | assumption | rfl | decide))))); (· exact rfl); (· exact rfl); (· exact opD_strAdd rfl rfl rfl (by (try simp only [List.length_append, List.length_cons, List.length_nil]); omega))) | (apply drawr_pure; (· (first | exact wanted_plain rfl | (apply wanted_on; (· exact rfl); (· exact rfl); (· (with_reducible first | assumption | rfl | decide))))); (· exact rfl); (· exact rfl); (· exact rfl)) | (apply drawr_move; (· (first | exact wanted_plain rfl | (apply wanted_on; (· exact rfl); (· exact rfl); (· (with_reducible first | assumption | rfl | decide))))); (· exact rfl)) | apply dwp_seq | apply dwp_region | apply ops_nil | (apply ops_plain; (· exact rfl)) | (apply ops_on; (· exact rfl); (· exact rfl); (· (with_reducible first | assumption | rfl | decide))) | (apply op_call; (· exact rfl); (· exact rfl); (· exact rfl); (refine CallWp.up up310 ((check35 (l := [f.x]) (by simp) (.at (hB.obj _ List.mem_cons_self).2.1 (hB.get At.here) (Nat.le_refl _) rfl)).mono ?_); rintro r H' ⟨rfl, hab⟩; replace hB := hB.grow hab; simp only [htab, if_true, Bool.false_eq_true, if_false])) | (apply op_call; (· exact rfl); (· exact rfl); (· exact rfl); (refine CallWp.up up310 ((may43e (l := [f.at']) (.one (Bx.get (by assumption) At.here))).mono ?_); rintro r H' ⟨rfl, rfl⟩)) | (apply op_call; (· exact rfl); (· exact rfl); (· exact rfl); (refine (ptext44 hgt _).mono ?_; rintro r H' ⟨rfl, hab⟩; replace hB := hB.grow hab)) | (apply op_call; (· exact rfl); (· exact rfl); (· exact rfl); (refine (ptext44 hga _).mono ?_; rintro r H' ⟨rfl, hab⟩; replace hB := hB.grow hab)) | (apply op_call; (· exact rfl); (· exact rfl); (· exact rfl); (refine CallWp.up up310 ((word45 hk15 _).mono ?_); rintro r H' ⟨rfl, hab⟩; replace hB := hB.grow hab; refine ⟨⟨hB.ab, hB.get At.here⟩, ?_⟩)) | (apply op_call; (· exact rfl); (· exact rfl); (· exact rfl); (apply dig46_t; (· exact hwb); refine ⟨⟨hB.ab, hB.get At.here⟩, ?_⟩)) | (apply op_pick_f; (· exact rfl); (· exact rfl); (· (with_reducible first | assumption | rfl | decide)); (· exact rfl)) | (apply op_index_at; (· exact rfl); (· exact rfl); (· exact rfl); (· with_reducible exact hin1); (· exact rfl); (· exact rfl)) | (apply op_load_at; (· exact rfl); (· exact rfl); (· exact hB.ab.obj hloc ho); (· exact hr1); (· exact partFireR f)) | (apply bx_buildL et22; (· exact rfl); (· exact rfl); (· exact rfl); (· decide); (· assumption); intro bk H1 hB) | (apply bx_buildL et112'; (· exact rfl); (· exact rfl); (· exact rfl); (· decide); (· assumption); intro bk2 H1 hB) | (apply op_at; (· exact opD_strAdd rfl rfl rfl (by (try simp only [List.length_append, List.length_cons, List.length_nil]); omega))) | (apply op_told; (· exact rfl); (· exact congrArg (DV.int _) hw)) | (apply bx_load0; (· exact rfl); (· exact rfl); (· assumption); (· (repeat (first | with_reducible exact At.here | with_reducible apply At.there))); (· (first | exact partFireR _ | exact partInjF _ | exact rfl))) | (apply bx_store0; (· exact rfl); (· exact rfl); (· exact rfl); (· assumption); (· (first | (dsimp only [DV.cells, getD_zero, getD_succ, Sv.cells]; done) | (dsimp only [DV.cells, getD_zero, getD_succ, Sv.cells]; exact rfl) | exact rfl)); (· (repeat (first | with_reducible exact Upd.here | with_reducible apply Upd.there))); (· exact rfl); (· exact rfl); (· exact rfl); (· exact rfl); intro H1 hB) | (apply bx_alloc; (· exact rfl); (· exact zero32); (· (first | (dsimp only [DV.cells, getD_zero, getD_succ, Sv.cells]; done) | (dsimp only [DV.cells, getD_zero, getD_succ, Sv.cells]; exact rfl) | exact rfl)); (· exact rfl); (· exact rfl); (· exact rfl); (· assumption); intro b6 H1 hB) | (apply op_at; (· exact rfl)) | (apply dwp_cond_t; (· exact rfl); (· (with_reducible first | assumption | rfl | decide))) | (apply dwp_cond_f; (· exact rfl); (· (with_reducible first | assumption | rfl | decide))) | apply dwp_block | apply dwp_skip | fail)
            refine ⟨⟨_, i + 1, (((acc ++ (faultF f.x.k ++ [32] ++ decF f.x.w ++ [32] ++ ptextF f.x.t)) ++ [32, 102, 105, 114, 101, 100]) ++ ([32, 97, 116, 32] ++ ptextF f.at')) ++ [10], junk_facts ⟨hB.sub (List.nil_sublist _), by omega, hln.trans hacc', ?_, hgd'⟩ rfl rfl⟩, ?_⟩
            · rw [hln, List.length_append]; omega
            · show l.length - ((i + 1 : Nat) : Int).toNat < l.length - (i : Int).toNat
              omega
          | false =>
            have hcm : cameF f = [32, 102, 105, 114, 101, 100] := by unfold cameF; rw [hfi, hde]; rfl
            have hln : ((acc ++ (faultF f.x.k ++ [32] ++ decF f.x.w ++ [32] ++ ptextF f.x.t)) ++ [32, 102, 105, 114, 101, 100]) ++ [10] = acc ++ lineF f := by unfold lineF; rw [hcm]; simp only [List.append_assoc]
            repeat' (first | dsimp only [putD, DV.cells, DH.new_next, DH.set_next, List.length_cons, List.length_nil, Nat.reduceAdd, List.set_cons_zero, List.set_cons_succ, getD_zero, getD_succ, fieldAt_zero, fieldAt_succ, thenD, blockD, retR] | (refine dwp_drawr _ rfl (fun H' => Above H H' ∧ H'.obj b6 = some (.rows false 7 [f.row])) ⟨hB.ab, (show Bx H _ [(b6, .rows false 7 [f.row])] [] from hB.sub (by (repeat (first | exact List.Sublist.refl _ | exact List.nil_sublist _ | apply List.Sublist.cons_cons | apply List.Sublist.cons | apply List.Sublist.append_left | refine List.Sublist.trans ?_ (List.sublist_append_right _ _))))).get At.here⟩ ?_; have hBb : Bx H _ [(b6, .rows false 7 [f.row])] [] := hB.sub (by (repeat (first | exact List.Sublist.refl _ | exact List.nil_sublist _ | apply List.Sublist.cons_cons | apply List.Sublist.cons | apply List.Sublist.append_left | refine List.Sublist.trans ?_ (List.sublist_append_right _ _)))); replace hB := hBb) | apply drawr_nil | (apply drawr_read; (· (first | exact wanted_plain rfl | (apply wanted_on; (· exact rfl); (· exact rfl); (· (with_reducible first | assumption | rfl | decide))))); (· exact rfl); (· exact rfl); (· intro H' h; exact opD_load rfl rfl h.2 rfl (by (first | exact partFireR _ | exact partInjF _ | exact rfl)))) | (apply drawr_pure; (· (first | exact wanted_plain rfl | (apply wanted_on; (· exact rfl); (· exact rfl); (· (with_reducible first | assumption | rfl | decide))))); (· exact rfl); (· exact rfl); (· exact opD_strAdd rfl rfl rfl (by (try simp only [List.length_append, List.length_cons, List.length_nil]); omega))) | (apply drawr_pure; (· (first | exact wanted_plain rfl | (apply wanted_on; (· exact rfl); (· exact rfl); (· (with_reducible first | assumption | rfl | decide))))); (· exact rfl); (· exact rfl); (· exact rfl)) | (apply drawr_move; (· (first | exact wanted_plain rfl | (apply wanted_on; (· exact rfl); (· exact rfl); (· (with_reducible first | assumption | rfl | decide))))); (· exact rfl)) | apply dwp_seq | apply dwp_region | apply ops_nil | (apply ops_plain; (· exact rfl)) | (apply ops_on; (· exact rfl); (· exact rfl); (· (with_reducible first | assumption | rfl | decide))) | (apply op_call; (· exact rfl); (· exact rfl); (· exact rfl); (refine CallWp.up up310 ((check35 (l := [f.x]) (by simp) (.at (hB.obj _ List.mem_cons_self).2.1 (hB.get At.here) (Nat.le_refl _) rfl)).mono ?_); rintro r H' ⟨rfl, hab⟩; replace hB := hB.grow hab; simp only [htab, if_true, Bool.false_eq_true, if_false])) | (apply op_call; (· exact rfl); (· exact rfl); (· exact rfl); (refine CallWp.up up310 ((may43e (l := [f.at']) (.one (Bx.get (by assumption) At.here))).mono ?_); rintro r H' ⟨rfl, rfl⟩)) | (apply op_call; (· exact rfl); (· exact rfl); (· exact rfl); (refine (ptext44 hgt _).mono ?_; rintro r H' ⟨rfl, hab⟩; replace hB := hB.grow hab)) | (apply op_call; (· exact rfl); (· exact rfl); (· exact rfl); (refine CallWp.up up310 ((word45 hk15 _).mono ?_); rintro r H' ⟨rfl, hab⟩; replace hB := hB.grow hab; refine ⟨⟨hB.ab, hB.get At.here⟩, ?_⟩)) | (apply op_call; (· exact rfl); (· exact rfl); (· exact rfl); (apply dig46_t; (· exact hwb); refine ⟨⟨hB.ab, hB.get At.here⟩, ?_⟩)) | (apply op_pick_f; (· exact rfl); (· exact rfl); (· (with_reducible first | assumption | rfl | decide)); (· exact rfl)) | (apply op_index_at; (· exact rfl); (· exact rfl); (· exact rfl); (· with_reducible exact hin1); (· exact rfl); (· exact rfl)) | (apply op_load_at; (· exact rfl); (· exact rfl); (· exact hB.ab.obj hloc ho); (· exact hr1); (· exact partFireR f)) | (apply bx_buildL et22; (· exact rfl); (· exact rfl); (· exact rfl); (· decide); (· assumption); intro bk H1 hB) | (apply bx_buildL et112'; (· exact rfl); (· exact rfl); (· exact rfl); (· decide); (· assumption); intro bk2 H1 hB) | (apply op_at; (· exact opD_strAdd rfl rfl rfl (by (try simp only [List.length_append, List.length_cons, List.length_nil]); omega))) | (apply op_told; (· exact rfl); (· exact congrArg (DV.int _) hw)) | (apply bx_load0; (· exact rfl); (· exact rfl); (· assumption); (· (repeat (first | with_reducible exact At.here | with_reducible apply At.there))); (· (first | exact partFireR _ | exact partInjF _ | exact rfl))) | (apply bx_store0; (· exact rfl); (· exact rfl); (· exact rfl); (· assumption); (· (first | (dsimp only [DV.cells, getD_zero, getD_succ, Sv.cells]; done) | (dsimp only [DV.cells, getD_zero, getD_succ, Sv.cells]; exact rfl) | exact rfl)); (· (repeat (first | with_reducible exact Upd.here | with_reducible apply Upd.there))); (· exact rfl); (· exact rfl); (· exact rfl); (· exact rfl); intro H1 hB) | (apply bx_alloc; (· exact rfl); (· exact zero32); (· (first | (dsimp only [DV.cells, getD_zero, getD_succ, Sv.cells]; done) | (dsimp only [DV.cells, getD_zero, getD_succ, Sv.cells]; exact rfl) | exact rfl)); (· exact rfl); (· exact rfl); (· exact rfl); (· assumption); intro b6 H1 hB) | (apply op_at; (· exact rfl)) | (apply dwp_cond_t; (· exact rfl); (· (with_reducible first | assumption | rfl | decide))) | (apply dwp_cond_f; (· exact rfl); (· (with_reducible first | assumption | rfl | decide))) | apply dwp_block | apply dwp_skip | fail)
            refine ⟨⟨_, i + 1, ((acc ++ (faultF f.x.k ++ [32] ++ decF f.x.w ++ [32] ++ ptextF f.x.t)) ++ [32, 102, 105, 114, 101, 100]) ++ [10], junk_facts ⟨hB.sub (List.nil_sublist _), by omega, hln.trans hacc', ?_, hgd'⟩ rfl rfl⟩, ?_⟩
            · rw [hln, List.length_append]; omega
            · show l.length - ((i + 1 : Nat) : Int).toNat < l.length - (i : Int).toNat
              omega
        | false =>
          cases hde : f.det with
          | true =>
            have hcm : cameF f = [32, 105, 100, 108, 101] ++ ([32, 97, 116, 32] ++ ptextF f.at') := by unfold cameF; rw [hfi, hde]; rfl
            have hln : (((acc ++ (faultF f.x.k ++ [32] ++ decF f.x.w ++ [32] ++ ptextF f.x.t)) ++ [32, 105, 100, 108, 101]) ++ ([32, 97, 116, 32] ++ ptextF f.at')) ++ [10] = acc ++ lineF f := by unfold lineF; rw [hcm]; simp only [List.append_assoc]
            repeat' (first | dsimp only [putD, DV.cells, DH.new_next, DH.set_next, List.length_cons, List.length_nil, Nat.reduceAdd, List.set_cons_zero, List.set_cons_succ, getD_zero, getD_succ, fieldAt_zero, fieldAt_succ, thenD, blockD, retR] | (refine dwp_drawr _ rfl (fun H' => Above H H' ∧ H'.obj b6 = some (.rows false 7 [f.row])) ⟨hB.ab, (show Bx H _ [(b6, .rows false 7 [f.row])] [] from hB.sub (by (repeat (first | exact List.Sublist.refl _ | exact List.nil_sublist _ | apply List.Sublist.cons_cons | apply List.Sublist.cons | apply List.Sublist.append_left | refine List.Sublist.trans ?_ (List.sublist_append_right _ _))))).get At.here⟩ ?_; have hBb : Bx H _ [(b6, .rows false 7 [f.row])] [] := hB.sub (by (repeat (first | exact List.Sublist.refl _ | exact List.nil_sublist _ | apply List.Sublist.cons_cons | apply List.Sublist.cons | apply List.Sublist.append_left | refine List.Sublist.trans ?_ (List.sublist_append_right _ _)))); replace hB := hBb) | apply drawr_nil | (apply drawr_read; (· (first | exact wanted_plain rfl | (apply wanted_on; (· exact rfl); (· exact rfl); (· (with_reducible first | assumption | rfl | decide))))); (· exact rfl); (· exact rfl); (· intro H' h; exact opD_load rfl rfl h.2 rfl (by (first | exact partFireR _ | exact partInjF _ | exact rfl)))) | (apply drawr_pure; (· (first | exact wanted_plain rfl | (apply wanted_on; (· exact rfl); (· exact rfl); (· (with_reducible first | assumption | rfl | decide))))); (· exact rfl); (· exact rfl); (· exact opD_strAdd rfl rfl rfl (by (try simp only [List.length_append, List.length_cons, List.length_nil]); omega))) | (apply drawr_pure; (· (first | exact wanted_plain rfl | (apply wanted_on; (· exact rfl); (· exact rfl); (· (with_reducible first | assumption | rfl | decide))))); (· exact rfl); (· exact rfl); (· exact rfl)) | (apply drawr_move; (· (first | exact wanted_plain rfl | (apply wanted_on; (· exact rfl); (· exact rfl); (· (with_reducible first | assumption | rfl | decide))))); (· exact rfl)) | apply dwp_seq | apply dwp_region | apply ops_nil | (apply ops_plain; (· exact rfl)) | (apply ops_on; (· exact rfl); (· exact rfl); (· (with_reducible first | assumption | rfl | decide))) | (apply op_call; (· exact rfl); (· exact rfl); (· exact rfl); (refine CallWp.up up310 ((check35 (l := [f.x]) (by simp) (.at (hB.obj _ List.mem_cons_self).2.1 (hB.get At.here) (Nat.le_refl _) rfl)).mono ?_); rintro r H' ⟨rfl, hab⟩; replace hB := hB.grow hab; simp only [htab, if_true, Bool.false_eq_true, if_false])) | (apply op_call; (· exact rfl); (· exact rfl); (· exact rfl); (refine CallWp.up up310 ((may43e (l := [f.at']) (.one (Bx.get (by assumption) At.here))).mono ?_); rintro r H' ⟨rfl, rfl⟩)) | (apply op_call; (· exact rfl); (· exact rfl); (· exact rfl); (refine (ptext44 hgt _).mono ?_; rintro r H' ⟨rfl, hab⟩; replace hB := hB.grow hab)) | (apply op_call; (· exact rfl); (· exact rfl); (· exact rfl); (refine (ptext44 hga _).mono ?_; rintro r H' ⟨rfl, hab⟩; replace hB := hB.grow hab)) | (apply op_call; (· exact rfl); (· exact rfl); (· exact rfl); (refine CallWp.up up310 ((word45 hk15 _).mono ?_); rintro r H' ⟨rfl, hab⟩; replace hB := hB.grow hab; refine ⟨⟨hB.ab, hB.get At.here⟩, ?_⟩)) | (apply op_call; (· exact rfl); (· exact rfl); (· exact rfl); (apply dig46_t; (· exact hwb); refine ⟨⟨hB.ab, hB.get At.here⟩, ?_⟩)) | (apply op_pick_f; (· exact rfl); (· exact rfl); (· (with_reducible first | assumption | rfl | decide)); (· exact rfl)) | (apply op_index_at; (· exact rfl); (· exact rfl); (· exact rfl); (· with_reducible exact hin1); (· exact rfl); (· exact rfl)) | (apply op_load_at; (· exact rfl); (· exact rfl); (· exact hB.ab.obj hloc ho); (· exact hr1); (· exact partFireR f)) | (apply bx_buildL et22; (· exact rfl); (· exact rfl); (· exact rfl); (· decide); (· assumption); intro bk H1 hB) | (apply bx_buildL et112'; (· exact rfl); (· exact rfl); (· exact rfl); (· decide); (· assumption); intro bk2 H1 hB) | (apply op_at; (· exact opD_strAdd rfl rfl rfl (by (try simp only [List.length_append, List.length_cons, List.length_nil]); omega))) | (apply op_told; (· exact rfl); (· exact congrArg (DV.int _) hw)) | (apply bx_load0; (· exact rfl); (· exact rfl); (· assumption); (· (repeat (first | with_reducible exact At.here | with_reducible apply At.there))); (· (first | exact partFireR _ | exact partInjF _ | exact rfl))) | (apply bx_store0; (· exact rfl); (· exact rfl); (· exact rfl); (· assumption); (· (first | (dsimp only [DV.cells, getD_zero, getD_succ, Sv.cells]; done) | (dsimp only [DV.cells, getD_zero, getD_succ, Sv.cells]; exact rfl) | exact rfl)); (· (repeat (first | with_reducible exact Upd.here | with_reducible apply Upd.there))); (· exact rfl); (· exact rfl); (· exact rfl); (· exact rfl); intro H1 hB) | (apply bx_alloc; (· exact rfl); (· exact zero32); (· (first | (dsimp only [DV.cells, getD_zero, getD_succ, Sv.cells]; done) | (dsimp only [DV.cells, getD_zero, getD_succ, Sv.cells]; exact rfl) | exact rfl)); (· exact rfl); (· exact rfl); (· exact rfl); (· assumption); intro b6 H1 hB) | (apply op_at; (· exact rfl)) | (apply dwp_cond_t; (· exact rfl); (· (with_reducible first | assumption | rfl | decide))) | (apply dwp_cond_f; (· exact rfl); (· (with_reducible first | assumption | rfl | decide))) | apply dwp_block | apply dwp_skip | fail)
            refine ⟨⟨_, i + 1, (((acc ++ (faultF f.x.k ++ [32] ++ decF f.x.w ++ [32] ++ ptextF f.x.t)) ++ [32, 105, 100, 108, 101]) ++ ([32, 97, 116, 32] ++ ptextF f.at')) ++ [10], junk_facts ⟨hB.sub (List.nil_sublist _), by omega, hln.trans hacc', ?_, hgd'⟩ rfl rfl⟩, ?_⟩
            · rw [hln, List.length_append]; omega
            · show l.length - ((i + 1 : Nat) : Int).toNat < l.length - (i : Int).toNat
              omega
          | false =>
            have hcm : cameF f = [32, 105, 100, 108, 101] := by unfold cameF; rw [hfi, hde]; rfl
            have hln : ((acc ++ (faultF f.x.k ++ [32] ++ decF f.x.w ++ [32] ++ ptextF f.x.t)) ++ [32, 105, 100, 108, 101]) ++ [10] = acc ++ lineF f := by unfold lineF; rw [hcm]; simp only [List.append_assoc]
            repeat' (first | dsimp only [putD, DV.cells, DH.new_next, DH.set_next, List.length_cons, List.length_nil, Nat.reduceAdd, List.set_cons_zero, List.set_cons_succ, getD_zero, getD_succ, fieldAt_zero, fieldAt_succ, thenD, blockD, retR] | (refine dwp_drawr _ rfl (fun H' => Above H H' ∧ H'.obj b6 = some (.rows false 7 [f.row])) ⟨hB.ab, (show Bx H _ [(b6, .rows false 7 [f.row])] [] from hB.sub (by (repeat (first | exact List.Sublist.refl _ | exact List.nil_sublist _ | apply List.Sublist.cons_cons | apply List.Sublist.cons | apply List.Sublist.append_left | refine List.Sublist.trans ?_ (List.sublist_append_right _ _))))).get At.here⟩ ?_; have hBb : Bx H _ [(b6, .rows false 7 [f.row])] [] := hB.sub (by (repeat (first | exact List.Sublist.refl _ | exact List.nil_sublist _ | apply List.Sublist.cons_cons | apply List.Sublist.cons | apply List.Sublist.append_left | refine List.Sublist.trans ?_ (List.sublist_append_right _ _)))); replace hB := hBb) | apply drawr_nil | (apply drawr_read; (· (first | exact wanted_plain rfl | (apply wanted_on; (· exact rfl); (· exact rfl); (· (with_reducible first | assumption | rfl | decide))))); (· exact rfl); (· exact rfl); (· intro H' h; exact opD_load rfl rfl h.2 rfl (by (first | exact partFireR _ | exact partInjF _ | exact rfl)))) | (apply drawr_pure; (· (first | exact wanted_plain rfl | (apply wanted_on; (· exact rfl); (· exact rfl); (· (with_reducible first | assumption | rfl | decide))))); (· exact rfl); (· exact rfl); (· exact opD_strAdd rfl rfl rfl (by (try simp only [List.length_append, List.length_cons, List.length_nil]); omega))) | (apply drawr_pure; (· (first | exact wanted_plain rfl | (apply wanted_on; (· exact rfl); (· exact rfl); (· (with_reducible first | assumption | rfl | decide))))); (· exact rfl); (· exact rfl); (· exact rfl)) | (apply drawr_move; (· (first | exact wanted_plain rfl | (apply wanted_on; (· exact rfl); (· exact rfl); (· (with_reducible first | assumption | rfl | decide))))); (· exact rfl)) | apply dwp_seq | apply dwp_region | apply ops_nil | (apply ops_plain; (· exact rfl)) | (apply ops_on; (· exact rfl); (· exact rfl); (· (with_reducible first | assumption | rfl | decide))) | (apply op_call; (· exact rfl); (· exact rfl); (· exact rfl); (refine CallWp.up up310 ((check35 (l := [f.x]) (by simp) (.at (hB.obj _ List.mem_cons_self).2.1 (hB.get At.here) (Nat.le_refl _) rfl)).mono ?_); rintro r H' ⟨rfl, hab⟩; replace hB := hB.grow hab; simp only [htab, if_true, Bool.false_eq_true, if_false])) | (apply op_call; (· exact rfl); (· exact rfl); (· exact rfl); (refine CallWp.up up310 ((may43e (l := [f.at']) (.one (Bx.get (by assumption) At.here))).mono ?_); rintro r H' ⟨rfl, rfl⟩)) | (apply op_call; (· exact rfl); (· exact rfl); (· exact rfl); (refine (ptext44 hgt _).mono ?_; rintro r H' ⟨rfl, hab⟩; replace hB := hB.grow hab)) | (apply op_call; (· exact rfl); (· exact rfl); (· exact rfl); (refine CallWp.up up310 ((word45 hk15 _).mono ?_); rintro r H' ⟨rfl, hab⟩; replace hB := hB.grow hab; refine ⟨⟨hB.ab, hB.get At.here⟩, ?_⟩)) | (apply op_call; (· exact rfl); (· exact rfl); (· exact rfl); (apply dig46_t; (· exact hwb); refine ⟨⟨hB.ab, hB.get At.here⟩, ?_⟩)) | (apply op_pick_f; (· exact rfl); (· exact rfl); (· (with_reducible first | assumption | rfl | decide)); (· exact rfl)) | (apply op_index_at; (· exact rfl); (· exact rfl); (· exact rfl); (· with_reducible exact hin1); (· exact rfl); (· exact rfl)) | (apply op_load_at; (· exact rfl); (· exact rfl); (· exact hB.ab.obj hloc ho); (· exact hr1); (· exact partFireR f)) | (apply bx_buildL et22; (· exact rfl); (· exact rfl); (· exact rfl); (· decide); (· assumption); intro bk H1 hB) | (apply bx_buildL et112'; (· exact rfl); (· exact rfl); (· exact rfl); (· decide); (· assumption); intro bk2 H1 hB) | (apply op_at; (· exact opD_strAdd rfl rfl rfl (by (try simp only [List.length_append, List.length_cons, List.length_nil]); omega))) | (apply op_told; (· exact rfl); (· exact congrArg (DV.int _) hw)) | (apply bx_load0; (· exact rfl); (· exact rfl); (· assumption); (· (repeat (first | with_reducible exact At.here | with_reducible apply At.there))); (· (first | exact partFireR _ | exact partInjF _ | exact rfl))) | (apply bx_store0; (· exact rfl); (· exact rfl); (· exact rfl); (· assumption); (· (first | (dsimp only [DV.cells, getD_zero, getD_succ, Sv.cells]; done) | (dsimp only [DV.cells, getD_zero, getD_succ, Sv.cells]; exact rfl) | exact rfl)); (· (repeat (first | with_reducible exact Upd.here | with_reducible apply Upd.there))); (· exact rfl); (· exact rfl); (· exact rfl); (· exact rfl); intro H1 hB) | (apply bx_alloc; (· exact rfl); (· exact zero32); (· (first | (dsimp only [DV.cells, getD_zero, getD_succ, Sv.cells]; done) | (dsimp only [DV.cells, getD_zero, getD_succ, Sv.cells]; exact rfl) | exact rfl)); (· exact rfl); (· exact rfl); (· exact rfl); (· assumption); intro b6 H1 hB) | (apply op_at; (· exact rfl)) | (apply dwp_cond_t; (· exact rfl); (· (with_reducible first | assumption | rfl | decide))) | (apply dwp_cond_f; (· exact rfl); (· (with_reducible first | assumption | rfl | decide))) | apply dwp_block | apply dwp_skip | fail)
            refine ⟨⟨_, i + 1, ((acc ++ (faultF f.x.k ++ [32] ++ decF f.x.w ++ [32] ++ ptextF f.x.t)) ++ [32, 105, 100, 108, 101]) ++ [10], junk_facts ⟨hB.sub (List.nil_sublist _), by omega, hln.trans hacc', ?_, hgd'⟩ rfl rfl⟩, ?_⟩
            · rw [hln, List.length_append]; omega
            · show l.length - ((i + 1 : Nat) : Int).toNat < l.length - (i : Int).toNat
              omega
  · have hie : i = l.length := by omega
    subst hie
    have hc : decide ((l.length : Int) < (l.length : Int)) = false := by simp
    rw [List.take_length] at hacc hgd
    have hc1 : l.countP (·.fired) ≤ l.length := List.countP_le_length
    have hc2 : l.countP (·.det) ≤ l.length := List.countP_le_length
    have q1 := decF_len (n := ((l.countP (·.fired) : Nat) : Int)) (by omega) (by omega)
    have q2 := decF_len (n := ((l.countP (·.det) : Nat) : Int)) (by omega) (by omega)
    have q3 := decF_len (n := ((l.length : Nat) : Int)) (by omega) (by omega)
    have hd1 : -1152921504606846977 < ((l.countP (·.fired) : Nat) : Int) ∧ ((l.countP (·.fired) : Nat) : Int) < 1152921504606846977 := by omega
    have hd2 : -1152921504606846977 < ((l.length : Nat) : Int) ∧ ((l.length : Nat) : Int) < 1152921504606846977 := by omega
    have hd3 : -1152921504606846977 < ((l.countP (·.det) : Nat) : Int) ∧ ((l.countP (·.det) : Nat) : Int) < 1152921504606846977 := by omega
    have htl : acc ++ decF ((l.countP (·.fired) : Nat) : Int) ++ [32, 111, 102, 32] ++ decF ((l.length : Nat) : Int) ++ [32, 100, 101, 116, 101, 99, 116, 101, 100, 32] ++ decF ((l.countP (·.det) : Nat) : Int) ++ [10] = textL l := by
      unfold textL tailF
      rw [← hacc]
      simp only [List.append_assoc]
    repeat' (first | dsimp only [putD, DV.cells, DH.new_next, DH.set_next, List.length_cons, List.length_nil, Nat.reduceAdd, List.set_cons_zero, List.set_cons_succ, getD_zero, getD_succ, fieldAt_zero, fieldAt_succ, thenD, blockD, retR] | apply dwp_seq | apply dwp_region | apply ops_nil | (apply ops_plain; (· exact rfl)) | (apply op_call; (· exact rfl); (· exact rfl); (· exact rfl); (refine CallWp.up up310 ((count17 (by omega) (hs.mono hB.ab)).mono ?_); rintro r H' ⟨rfl, hab⟩; replace hB := hB.grow hab)) | (apply op_call; (· exact rfl); (· exact rfl); (· exact rfl); (refine dig46_t hd1 ?_)) | (apply op_call; (· exact rfl); (· exact rfl); (· exact rfl); (refine dig46_t hd2 ?_)) | (apply op_call; (· exact rfl); (· exact rfl); (· exact rfl); (refine dig46_t hd3 ?_)) | (apply op_at; (· exact opD_strAdd rfl rfl rfl (by (try simp only [List.length_append, List.length_cons, List.length_nil]); omega))) | (apply op_at; (· exact rfl)) | (apply dwp_cond_f; (· exact rfl); (· (with_reducible first | assumption | rfl | decide))) | apply dwp_ret | apply dwp_exit | (refine ⟨_, rfl, ?_⟩) | fail)
    exact ⟨by unfold textR; rw [if_pos (List.all_eq_true.mpr hgd), ← htl]; rfl, hB.ab⟩
end Go.Det.C

/- Cover: lemmas for Report's second loop. -/
namespace Go.Det.C
open Go Go.Det Go.Proofs
set_option maxRecDepth 4000
set_option linter.unusedVariables false
set_option linter.unusedSimpArgs false
abbrev Ev.dv (y : Ev) : DV := .agg y.row
theorem zero66 : zeroT Tryd.prog 66 = some (.sl none 0 0 true) := rfl
/-! ### queues that are written no more -/
def QF (M0 : List Qe) : DH → Prop := fun H => ∀ e ∈ M0, ∀ p n c ex, e.s = .sl p n c ex → Sl H 1 (e.l.map natRow) p
def SubQ (M0 : List Qe) (e : Qe) : Prop := ∃ e0 ∈ M0, ∃ p c ex a, e0.s = .sl p e0.l.length c ex ∧ a ≤ e0.l.length ∧ e.l = e0.l.drop a ∧ e.s = .sl (p.map fun (l, i, z) => (l, i + a, z)) (e0.l.length - a) (c - a) ex
theorem qf_stay (M0 : List Qe) : Stay (fun l => ∃ e ∈ M0, ∃ i z n c ex, e.s = .sl (some (l, i, z)) n c ex) (QF M0) := by
  intro H H' hn hs h e he p n c ex hes
  have h1 := h e he p n c ex hes
  cases h1 with
  | nil h => exact .nil h
  | «at» h1 h2 h3 h4 => exact .at (Nat.lt_of_lt_of_le h1 hn) ((hs _ ⟨e, he, _, _, _, _, _, hes⟩).trans h2) h3 h4
theorem own1_inv {z : Nat} {R : List (List DV)} {s : DV} {bx : List (Nat × DObj)} (h : Own1 z R s bx) : (∃ ex, R = [] ∧ s = .sl none 0 0 ex ∧ bx = []) ∨ (∃ b c ex rs, s = .sl (some (b, 0, z)) R.length c ex ∧ bx = [(b, .rows false z rs)] ∧ c = rs.length ∧ R.length ≤ c ∧ rs.take R.length = R) := by
  cases h with
  | nil h => exact .inl ⟨_, h, rfl, rfl⟩
  | «at» h1 h2 h3 => exact .inr ⟨_, _, _, _, rfl, rfl, h1, h2, h3⟩
theorem q_freeze {A H : DH} {M : List Qe} {rest : List (Nat × DObj)} (h : Bx A H (M.flatMap Qe.bx ++ rest) []) (ho : ∀ e ∈ M, Own1 1 (e.l.map natRow) e.s e.bx) : Bx A H rest [QF M] ∧ ∀ e ∈ M, SubQ M e := by
  refine ⟨bx_freeze h _ (qf_stay M) ?_ ?_, ?_⟩
  · intro e he p n c ex hes
    rcases own1_inv (ho e he) with ⟨_, h1, h2, h3⟩ | ⟨b, c', ex', rs, h1, h2, h3, h4, h5⟩
    · rw [h2] at hes; injection hes with e1; subst e1
      exact .nil h1
    · rw [h1] at hes; injection hes with e1; subst e1
      have hm : (b, DObj.rows false 1 rs) ∈ M.flatMap Qe.bx ++ rest := List.mem_append_left _ (List.mem_flatMap.mpr ⟨e, he, by rw [h2]; exact List.mem_singleton.mpr rfl⟩)
      obtain ⟨_, h6, h7⟩ := h.obj _ hm
      exact .at h6 h7 (by omega) (by simpa using h5)
  · rintro l ⟨e, he, i, z, n, c, ex, hes⟩
    rcases own1_inv (ho e he) with ⟨_, h1, h2, h3⟩ | ⟨b, c', ex', rs, h1, h2, h3, h4, h5⟩
    · rw [h2] at hes; injection hes with e1; cases e1
    · rw [h1] at hes; injection hes with e1
      injection e1 with e1; injection e1 with e1 e2; subst e1
      exact ⟨_, List.mem_flatMap.mpr ⟨e, he, by rw [h2]; exact List.mem_singleton.mpr rfl⟩, rfl⟩
  · intro e he
    rcases own1_inv (ho e he) with ⟨ex, h1, h2, h3⟩ | ⟨b, c', ex', rs, h1, h2, h3, h4, h5⟩
    · have hl : e.l = [] := by cases hq : e.l with | nil => rfl | cons a b => rw [hq] at h1; cases h1
      exact ⟨e, he, none, 0, ex, 0, by rw [h2, hl]; rfl, Nat.zero_le _, rfl, by rw [h2, hl]; rfl⟩
    · refine ⟨e, he, some (b, 0, 1), c', ex', 0, by rw [h1, List.length_map], Nat.zero_le _, rfl, by rw [h1, List.length_map]; rfl⟩
theorem subq_sl {M0 : List Qe} {e : Qe} (h : SubQ M0 e) : ∃ p c ex, e.s = .sl p e.l.length c ex ∧ ∀ H, QF M0 H → Sl H 1 (e.l.map natRow) p := by
  obtain ⟨e0, he0, p, c, ex, a, h1, h2, h3, h4⟩ := h
  refine ⟨_, _, _, by rw [h4, h3, List.length_drop], fun H hf => ?_⟩
  have h5 := (hf e0 he0 _ _ _ _ h1).sub (a := a) (b := e0.l.length) h2 (by simp)
  rw [h3, List.map_drop]
  rwa [List.take_of_length_le (by simp)] at h5
theorem subq_head {M0 : List Qe} {e : Qe} {v : Nat} {r : List Nat} (h : SubQ M0 e) (hl : e.l = v :: r) {H : DH} (hf : QF M0 H) : ∃ l i c ex, e.s = .sl (some (l, i, 1)) (r.length + 1) c ex ∧ (∀ H, QF M0 H → ∃ ro rs, H.obj l = some (.rows ro 1 rs) ∧ rs[i + (0 : Int).toNat]? = some (natRow v)) ∧ ∀ bx, SubQ M0 ⟨e.key, r, .sl (some (l, i + 1, 1)) r.length (c - 1) ex, bx⟩ := by
  obtain ⟨p, c, ex, h1, h2⟩ := subq_sl h
  obtain ⟨l, i, ro, rs, rfl, _, _, _⟩ := (h2 H hf).rd (k := 0) (r := natRow v) (by rw [hl]; rfl)
  refine ⟨l, i, c, ex, by rw [h1, hl]; rfl, fun H hf => ?_, fun bx => ?_⟩
  · obtain ⟨l', i', ro, rs, e1, _, h3, h4⟩ := (h2 H hf).rd (k := 0) (r := natRow v) (by rw [hl]; rfl)
    injection e1 with e1; injection e1 with e1 e2; injection e2 with e2 e3; subst e1 e2
    exact ⟨ro, rs, h3, h4⟩
  · obtain ⟨e0, he0, p0, c0, ex0, a, g1, g2, g3, g4⟩ := h
    have hlt : a < e0.l.length := by
      rcases Nat.lt_or_ge a e0.l.length with h | h
      · exact h
      · rw [g3, List.drop_of_length_le h] at hl; cases hl
    rw [h1] at g4
    injection g4 with e1 e2 e3 e4
    have hr : r = e0.l.drop (a + 1) := by
      rw [g3] at hl
      rw [← List.drop_drop, hl]; rfl
    refine ⟨e0, he0, p0, c0, ex0, a + 1, g1, hlt, hr, ?_⟩
    cases p0 with
    | none => cases e1
    | some q =>
      obtain ⟨l0, i0, z0⟩ := q
      injection e1 with e1; injection e1 with e1 e5; injection e5 with e5 e6; subst e1 e5 e6
      show DV.sl _ _ _ _ = DV.sl _ _ _ _
      rw [e3, e4, Nat.sub_sub, hr, List.length_drop]; rfl
def LK (M : List Qe) (y : Ev) (v : DV) : Prop := (∃ i, findD Tryd.prog 34 (.agg y.row) (mapE Ev.dv (M.map Qe.kv)) = some (some (i, v))) ∨ (findD Tryd.prog 34 (.agg y.row) (mapE Ev.dv (M.map Qe.kv)) = some none ∧ zeroT Tryd.prog 66 = some v)
theorem qlook {M0 M : List Qe} {s : CSt} (hQ : QRel M s.q) (hS : ∀ e ∈ M, SubQ M0 e) {H : DH} (hf : QF M0 H) (y : Ev) : (∃ p c ex, s.q y = [] ∧ LK M y (.sl p 0 c ex)) ∨
    ∃ v r l i c ex k M', s.q y = v :: r ∧ findD Tryd.prog 34 (.agg y.row) (mapE Ev.dv (M.map Qe.kv)) = some (some (k, .sl (some (l, i, 1)) (r.length + 1) c ex)) ∧ (∀ H, QF M0 H → ∃ ro rs, H.obj l = some (.rows ro 1 rs) ∧ rs[i + (0 : Int).toNat]? = some (natRow v)) ∧ QRel M' (fun k => if k = y then r else s.q k) ∧ (∀ e ∈ M', SubQ M0 e) ∧
      (mapE Ev.dv (M.map Qe.kv)).set k (.agg y.row, .sl (some (l, i + 1, 1)) r.length (c - 1) ex) = mapE Ev.dv (M'.map Qe.kv) := by
  rcases find_q y M with ⟨M1, e, M2, rfl, hek, hne, hfind⟩ | ⟨hno, hfind⟩
  · have hfd : findD Tryd.prog 34 (.agg y.row) (mapE Ev.dv ((M1 ++ e :: M2).map Qe.kv)) = some (some (M1.length, e.s)) := by
      have h := find_mapE (P := Tryd.prog) (kt := 34) (kd := Ev.dv) keqEv y ((M1 ++ e :: M2).map Qe.kv)
      rw [hfind] at h
      exact h
    have hq : e.l = s.q y := by rw [hQ.at' e (by simp), hek]
    cases hl : e.l with
    | nil =>
      obtain ⟨p, c, ex, h1, _⟩ := subq_sl (hS e (by simp))
      rw [h1, hl] at hfd
      exact .inl ⟨p, c, ex, by rw [← hq, hl], .inl ⟨_, hfd⟩⟩
    | cons v r =>
      obtain ⟨l, i, c, ex, h1, h2, h3⟩ := subq_head (hS e (by simp)) hl hf
      rw [h1] at hfd
      refine .inr ⟨v, r, l, i, c, ex, _, M1 ++ ⟨e.key, r, .sl (some (l, i + 1, 1)) r.length (c - 1) ex, []⟩ :: M2, by rw [← hq, hl], hfd, h2, ?_, ?_, ?_⟩
      · refine hQ.upd rfl ?_ fun z hz => ?_
        · show r = if e.key = y then r else s.q e.key
          rw [if_pos hek]
        · show (if z = y then r else s.q z) = s.q z
          rw [if_neg (by rw [← hek]; exact hz)]
      · intro d hd
        rcases List.mem_append.mp hd with hd | hd
        · exact hS d (List.mem_append_left _ hd)
        · rcases List.mem_cons.mp hd with rfl | hd
          · exact h3 []
          · exact hS d (List.mem_append_right _ (List.mem_cons_of_mem _ hd))
      · unfold mapE
        rw [List.map_append, List.map_append, List.map_cons, List.map_cons, List.map_append, List.map_append, List.map_cons, List.map_cons, List.set_append_right _ _ (by simp)]
        have e0 : M1.length - ((M1.map Qe.kv).map fun x => (Ev.dv x.1, x.2)).length = 0 := by simp
        rw [e0, List.set_cons_zero]
        show _ = _ ++ (Ev.dv e.key, _) :: _
        rw [hek]
  · have hfd : findD Tryd.prog 34 (.agg y.row) (mapE Ev.dv (M.map Qe.kv)) = some none := by
      have h := find_mapE (P := Tryd.prog) (kt := 34) (kd := Ev.dv) keqEv y (M.map Qe.kv)
      rw [hfind] at h
      exact h
    exact .inl ⟨none, 0, true, hQ.no y hno, .inr ⟨hfd, zero66⟩⟩
theorem bx_lookupU {X : Ext} {A H : DH} {bs : List (Nat × DObj)} {fs : List (DH → Prop)} {K : DV → DH → Prop} {o : Oper} {env : List DV} {a k : Operand} {b : Nat} {M : List Qe} {y : Ev} {v : DV} (ho : o.op = .lookup 65 a k false) (ha : evalO env a = some (.map (some b))) (hk : evalO env k = some (.agg y.row)) (hB : Bx A H bs fs) (hm : At b (.map (mapE Ev.dv (M.map Qe.kv))) bs)
    (hl : LK M y v) (hr : K v H) : OpWp Tryd.prog X o env H K := by
  rcases hl with ⟨i, hf⟩ | ⟨hf, hz⟩
  · exact bx_lookupF ho ha hk rfl hB hm (keyOkE y) hf hr
  · exact bx_lookup0F ho ha hk rfl hB hm (keyOkE y) hf hz hr
theorem bx_loadQ {X : Ext} {A H : DH} {bs : List (Nat × DObj)} {M0 : List Qe} {K : DV → DH → Prop} {o : Oper} {env : List DV} {a : Operand} {l i v : Nat} (ho : o.op = .load 3 a) (ha : evalO env a = some (.ptr (some (l, i + (0 : Int).toNat, 0)))) (hB : Bx A H bs [QF M0])
    (hq : ∀ H, QF M0 H → ∃ ro rs, H.obj l = some (.rows ro 1 rs) ∧ rs[i + (0 : Int).toNat]? = some (natRow v)) (hr : K (.int .i64 (v : Int)) H) : OpWp Tryd.prog X o env H K := by
  obtain ⟨ro, rs, h1, h2⟩ := hq H (hB.has InF.here)
  exact op_load_at ho ha h1 h2 rfl hr
/-! ### rows of what fired -/
theorem setRow_fire {fs : List Fire} {v : Nat} {f : Fire} (hf : fs[v]? = some f) {off : Nat} {cs : List DV} (g : Fire → Fire) (h1 : off + cs.length ≤ 7 ∧ cs.all DV.one = true) (h2 : splice f.row off cs = (g f).row) : setRow (fs.map Fire.row) (0 + (v : Int).toNat) off cs = some ((fs.modify v g).map Fire.row) := by
  rw [Nat.zero_add, Int.toNat_natCast]
  have hv : v < fs.length := (List.getElem?_eq_some_iff.mp hf).1
  have hfv : fs[v] = f := (List.getElem?_eq_some_iff.mp hf).2
  unfold setRow
  rw [List.getElem?_map, hf]
  show (if off + cs.length ≤ 7 ∧ cs.all DV.one = true then some ((fs.map Fire.row).set v (splice f.row off cs)) else none) = _
  rw [if_pos h1, h2]
  congr 1
  apply List.ext_getElem?
  intro j
  rw [List.getElem?_set, List.getElem?_map, List.getElem?_map, List.getElem?_modify]
  by_cases hj : v = j
  · subst hj
    rw [if_pos rfl, if_pos (by simpa using hv), hf]
    simp
  · rw [if_neg hj]
    cases fs[j]? <;> simp [hj]
def det1 (f : Fire) : Fire := { f with det := true }
def det2 (y : Ev) (f : Fire) : Fire := { f with at' := y.t }
theorem set_det1 {fs : List Fire} {v : Nat} {f : Fire} (hf : fs[v]? = some f) : setRow (fs.map Fire.row) (0 + (v : Int).toNat) 5 (DV.cells (.bool true)) = some ((fs.modify v det1).map Fire.row) := setRow_fire hf det1 ⟨by decide, rfl⟩ rfl
theorem modify2 (fs : List Fire) (v : Nat) (g k : Fire → Fire) : (fs.modify v g).modify v k = fs.modify v (fun f => k (g f)) := by
  apply List.ext_getElem?
  intro j
  rw [List.getElem?_modify, List.getElem?_modify, List.getElem?_modify]
  cases fs[j]? with
  | none => simp
  | some f => by_cases h : v = j <;> simp [h]
theorem set_det2 {fs : List Fire} {v : Nat} {f : Fire} (hf : fs[v]? = some f) (y : Ev) : setRow ((fs.modify v det1).map Fire.row) (0 + (v : Int).toNat) 6 (DV.cells (.int .i64 y.t)) = some ((fs.modify v (markD y)).map Fire.row) := by
  have hf1 : (fs.modify v det1)[v]? = some (det1 f) := by rw [List.getElem?_modify, hf]; simp
  rw [setRow_fire hf1 (det2 y) ⟨by show 6 + 1 ≤ 7; decide, rfl⟩ rfl, modify2]
  rfl
theorem set_fired {fs : List Fire} {v : Nat} {f : Fire} (hf : fs[v]? = some f) : setRow (fs.map Fire.row) (0 + (v : Int).toNat) 4 (DV.cells (.bool true)) = some ((fs.modify v markF).map Fire.row) := setRow_fire hf markF ⟨by decide, rfl⟩ rfl
/-! ### what is open -/
structure OpenR (op : List Nat) (co : Nat) (ro : List (List DV)) : Prop where
  c : co = ro.length
  le : op.length ≤ co
  rows : ro.take op.length = op.map natRow
theorem OpenR.own {op : List Nat} {co b : Nat} {ex : Bool} {ro : List (List DV)} (h : OpenR op co ro) : Own1 1 (op.map natRow) (.sl (some (b, 0, 1)) op.length co ex) [(b, .rows false 1 ro)] := by
  have h1 := Own1.at (z := 1) (b := b) (ex := ex) (R := op.map natRow) h.c (by rw [List.length_map]; exact h.le) (by rw [List.length_map]; exact h.rows)
  rwa [List.length_map] at h1
theorem open_own {op : List Nat} {v : Nat} {s : DV} {bx : List (Nat × DObj)} (h : Own1 1 (op.map natRow ++ [natRow v]) s bx) : ∃ b c ex rs, s = .sl (some (b, 0, 1)) (op ++ [v]).length c ex ∧ bx = [(b, .rows false 1 rs)] ∧ OpenR (op ++ [v]) c rs := by
  have e : op.map natRow ++ [natRow v] = (op ++ [v]).map natRow := by simp
  rw [e] at h
  rcases own1_inv h with ⟨_, h1, _, _⟩ | ⟨b, c, ex, rs, h1, h2, h3, h4, h5⟩
  · simp at h1
  · rw [List.length_map] at h1 h4 h5
    exact ⟨b, c, ex, rs, h1, h2, h3, h4, h5⟩
structure OpenI (op : List Nat) (i : Nat) (w : List Nat) (co : Nat) (ri : List (List DV)) : Prop where
  c : co = ri.length
  le : w.length ≤ i
  rows : ri.take w.length = w.map natRow
  rest : ∀ j v, i ≤ j → op[j]? = some v → ri[j]? = some (natRow v)
theorem OpenI.init {op : List Nat} {co : Nat} {ro : List (List DV)} (h : OpenR op co ro) : OpenI op 0 [] co ro := by
  refine ⟨h.c, Nat.le_refl _, rfl, fun j v _ hv => ?_⟩
  have hj : j < op.length := (List.getElem?_eq_some_iff.mp hv).1
  have h1 : (ro.take op.length)[j]? = ro[j]? := by rw [List.getElem?_take, if_pos hj]
  rw [← h1, h.rows, List.getElem?_map, hv]; rfl
theorem OpenI.keep {op : List Nat} {i v co : Nat} {w : List Nat} {ri : List (List DV)} (h : OpenI op i w co ri) (hv : op[i]? = some v) : OpenI op (i + 1) (w ++ [v]) co (ri.set w.length (natRow v)) := by
  have hi : i < ri.length := (List.getElem?_eq_some_iff.mp (h.rest i v (Nat.le_refl _) hv)).1
  have hle := h.le
  refine ⟨by rw [List.length_set]; exact h.c, by simp; omega, ?_, fun j u hj hu => ?_⟩
  · rw [List.length_append, List.length_singleton, List.take_add_one, List.getElem?_set, if_pos rfl, if_pos (by omega), List.map_append, ← h.rows]
    congr 1
    apply List.ext_getElem?
    intro j
    rw [List.getElem?_take, List.getElem?_take]
    split
    · rw [List.getElem?_set, if_neg (by omega)]
    · rfl
  · rw [List.getElem?_set, if_neg (by omega)]
    exact h.rest j u (by omega) hu
theorem OpenI.drop {op : List Nat} {i co : Nat} {w : List Nat} {ri : List (List DV)} (h : OpenI op i w co ri) : OpenI op (i + 1) w co ri :=
  ⟨h.c, Nat.le_succ_of_le h.le, h.rows, fun j v hj hv => h.rest j v (by omega) hv⟩
theorem OpenI.fin {op : List Nat} {co i : Nat} {w : List Nat} {ri : List (List DV)} (h : OpenI op i w co ri) (h1 : i ≤ co) : OpenR w co ri := ⟨h.c, by have := h.le; omega, h.rows⟩
/-! ### steps -/
theorem noteFs_take {tab : List Inj} {y : Ev} {fs : List Fire} {op : List Nat} {i v : Nat} (hv : op[i]? = some v) : noteFs tab y fs (op.take (i + 1)) = if notI tab y v then (noteFs tab y fs (op.take i)).modify v (markD y) else noteFs tab y fs (op.take i) := by
  unfold noteFs
  rw [List.take_add_one, hv, List.foldl_append]
  rfl
theorem noteOp_take {tab : List Inj} {y : Ev} {op : List Nat} {i v : Nat} (hv : op[i]? = some v) : noteOp tab y (op.take (i + 1)) = noteOp tab y (op.take i) ++ if notI tab y v then [] else [v] := by
  unfold noteOp
  rw [List.take_add_one, hv, List.filter_append]
  cases h : notI tab y v <;> simp [h]
theorem notI_at {tab : List Inj} {y : Ev} {v : Nat} {x : Inj} (h : tab[v]? = some x) : notI tab y v = noticesF x y := by unfold notI; rw [h]
def stC (tab : List Inj) (log : List Ev) (j : Nat) : CSt := (log.take j).foldl (stepC tab) (initC tab)
theorem stC_succ {tab : List Inj} {log : List Ev} {j : Nat} {y : Ev} (h : log[j]? = some y) : stC tab log (j + 1) = stepC tab (stC tab log j) y := by
  unfold stC
  rw [List.take_add_one, h, List.foldl_append]; rfl
theorem stC_all (tab : List Inj) (log : List Ev) : stC tab log log.length = reportC tab log := by unfold stC reportC; rw [List.take_length]
theorem stC_wf (tab : List Inj) (log : List Ev) (j : Nat) : WFC tab (stC tab log j) := (WFC.init tab).fold _
theorem step_nil {tab : List Inj} {s : CSt} {y : Ev} (h : s.q y = []) : stepC tab s y = ⟨noteFs tab y s.fires s.op, s.q, noteOp tab y s.op⟩ := by unfold stepC; rw [h]
theorem step_cons {tab : List Inj} {s : CSt} {y : Ev} {v : Nat} {r : List Nat} (h : s.q y = v :: r) : stepC tab s y = ⟨(noteFs tab y s.fires s.op).modify v markF, fun k => if k = y then r else s.q k, noteOp tab y s.op ++ [v]⟩ := by unfold stepC; rw [h]
theorem noteOp_le (tab : List Inj) (y : Ev) (op : List Nat) : (noteOp tab y op).length ≤ op.length := List.length_filter_le _ _
end Go.Det.C

/- Cover: Report's walk. -/
namespace Go.Det.C
open Go Go.Det Go.Proofs
set_option maxRecDepth 4000
set_option maxHeartbeats 4000000
set_option linter.unusedVariables false
set_option linter.unusedSimpArgs false
theorem et24 : ElemT Tryd.prog 24 32 7 48 (.agg [.int .i64 0, .int .i64 0, .int .i64 0, .int .i64 0, .bool false, .bool false, .int .i64 0]) := ⟨rfl, rfl, rfl, by kernel_rfl, by decide, by decide, rfl, rfl⟩
theorem bx_makeL {P : Program} {X : Ext} {A H : DH} {bs : List (Nat × DObj)} {fs : List (DH → Prop)} {K : DV → DH → Prop} {o : Oper} {env : List DV} {st e : TypeId} {z by_ : Nat} {z0 : DV} {x y : Operand} {n : Nat} {j k : IntKind} (E : ElemT P st e z by_ z0) (ho : o.op = .makeSlice st x y) (hx : evalO env x = some (.int j (n : Int))) (hy : evalO env y = some (.int k (n : Int))) (hn : n ≤ mostD) (hB : Bx A H bs fs)
    (hk : ∀ b H', Bx A H' ((b, .rows false z (List.replicate n z0.cells)) :: bs) fs → K (.sl (some (b, 0, z)) n n true) H') : OpWp P X o env H K :=
  op_make E ho hx hy (Nat.le_refl _) hn (hk _ _ (hB.box _))
theorem at_app58 {b : Nat} {o : DObj} {pre l : List (Nat × DObj)} (h : At b o l) : At b o (pre ++ l) := by
  induction pre with
  | nil => exact h
  | cons x r ih => exact .there ih
theorem upd_app58 {b : Nat} {o o' : DObj} {pre l l' : List (Nat × DObj)} (h : Upd b o o' l l') : Upd b o o' (pre ++ l) (pre ++ l') := by
  induction pre with
  | nil => exact h
  | cons x r ih => exact .there ih
def zrow : List DV := [.int .i64 0, .int .i64 0, .int .i64 0, .int .i64 0, .bool false, .bool false, .int .i64 0]
def rowsA (tab : List Inj) (k : Nat) : List (List DV) := ((tab.take k).map fun x => (Fire.mk x false false 0).row) ++ List.replicate (tab.length - k) zrow
theorem rowsA_set {tab : List Inj} {k : Nat} {x : Inj} (hx : tab[k]? = some x) : setRow (rowsA tab k) (0 + ((k : Nat) : Int).toNat) 0 (DV.cells (.agg x.row)) = some (rowsA tab (k + 1)) := by
  have hk : k < tab.length := (List.getElem?_eq_some_iff.mp hx).1
  have hrk : (rowsA tab k)[k]? = some zrow := by
    unfold rowsA
    rw [List.getElem?_append_right (by simp; omega), List.getElem?_replicate, if_pos (by simp; omega)]
  rw [Nat.zero_add, Int.toNat_natCast]
  have hcells : DV.cells (.agg x.row) = x.row := rfl
  rw [hcells]
  unfold setRow
  rw [hrk]
  have hsp : splice zrow 0 x.row = (Fire.mk x false false 0).row := rfl
  have hone : (0 + x.row.length ≤ zrow.length ∧ x.row.all DV.one = true) := ⟨by show 0 + 4 ≤ 7; decide, rfl⟩
  simp only [hone, and_self, if_true, hsp]
  congr 1
  unfold rowsA
  rw [List.take_add_one, hx, List.map_append, List.set_append_right _ _ (by simp; omega)]
  have e : k - ((tab.take k).map fun x => (Fire.mk x false false 0).row).length = 0 := by simp; omega
  rw [e, show tab.length - k = (tab.length - (k + 1)) + 1 by omega, List.replicate_succ]
  simp
def RepOk (tab : List Inj) (log : List Ev) (H : DH) (r : DV) (H' : DH) : Prop :=
  Above H H' ∧ if tabOk tab = true ∧ evOk log = true then ∃ b, r = .tuple [.sl (some (b, 0, 7)) tab.length tab.length true, .int .i64 0] ∧ H'.obj b = some (.rows false 7 ((reportC tab log).fires.map Fire.row)) ∧ H.next ≤ b ∧ b < H'.next else r = .tuple [.sl none 0 0 true, .int .i64 1]
theorem report12 {tab : List Inj} {log : List Ev} {p p2 : Option (Nat × Nat × Nat)} {c c2 : Nat} {ex ex2 : Bool} {H : DH} (hl1 : tab.length ≤ 9223372036854775807) (hl2 : log.length ≤ 9223372036854775807) (hs : Sl H 4 (tab.map Inj.row) p) (hs2 : Sl H 5 (log.map Ev.row) p2) :
    CallWp Tryd.prog X3 12 [.sl p tab.length c ex, .sl p2 log.length c2 ex2] H (fun r H' => RepOk tab log H r H') := by
  have hB : Bx H H [] [] := Bx.init (fun f hf => by cases hf)
  unfold RepOk
  cases ht : tabOk tab with
  | false =>
    refine enter rfl Tryd.func12 rfl Tryd.ntmps12 rfl ?_
    dsimp only [List.cons_append, List.nil_append, List.length_cons, List.length_nil, List.replicate_succ, List.replicate_zero, Nat.reduceAdd, Nat.reduceSub]
    repeat' (first | dsimp only [putD, DV.cells, DH.new_next, DH.set_next, List.length_cons, List.length_nil, Nat.reduceAdd, List.set_cons_zero, List.set_cons_succ, getD_zero, getD_succ, fieldAt_zero, fieldAt_succ, thenD, blockD, retR] | apply dwp_seq | apply dwp_region | apply ops_nil | (apply ops_plain; (· exact rfl)) | (apply ops_off0; (· exact rfl); (· exact rfl); (· (with_reducible first | assumption | rfl | decide))) | (apply op_call; (· exact rfl); (· exact rfl); (· exact rfl); (refine (check20 hl1 (hs.mono hB.ab)).mono ?_; rintro r H' ⟨rfl, hab⟩; replace hB := hB.grow hab; simp only [ht, if_true, Bool.false_eq_true, if_false])) | (apply op_pick_t; (· exact rfl); (· exact rfl); (· (with_reducible first | assumption | rfl | decide)); (· exact rfl)) | (apply op_at; (· exact rfl)) | (apply dwp_cond_t; (· exact rfl); (· (with_reducible first | assumption | rfl | decide))) | apply dwp_ret | (refine ⟨_, rfl, ?_⟩) | fail)
    exact ⟨hB.ab, by simp⟩
  | true =>
    cases he : evOk log with
    | false =>
      refine enter rfl Tryd.func12 rfl Tryd.ntmps12 rfl ?_
      dsimp only [List.cons_append, List.nil_append, List.length_cons, List.length_nil, List.replicate_succ, List.replicate_zero, Nat.reduceAdd, Nat.reduceSub]
      repeat' (first | dsimp only [putD, DV.cells, DH.new_next, DH.set_next, List.length_cons, List.length_nil, Nat.reduceAdd, List.set_cons_zero, List.set_cons_succ, getD_zero, getD_succ, fieldAt_zero, fieldAt_succ, thenD, blockD, retR] | apply dwp_seq | apply dwp_region | apply ops_nil | (apply ops_plain; (· exact rfl)) | (apply ops_on; (· exact rfl); (· exact rfl); (· (with_reducible first | assumption | rfl | decide))) | (apply op_call; (· exact rfl); (· exact rfl); (· exact rfl); (refine (check20 hl1 (hs.mono hB.ab)).mono ?_; rintro r H' ⟨rfl, hab⟩; replace hB := hB.grow hab; simp only [ht, if_true, Bool.false_eq_true, if_false])) | (apply op_call; (· exact rfl); (· exact rfl); (· exact rfl); (refine (check21 hl2 (hs2.mono hB.ab)).mono ?_; rintro r H' ⟨rfl, hab⟩; replace hB := hB.grow hab; simp only [he, if_true, Bool.false_eq_true, if_false])) | (apply op_pick_f; (· exact rfl); (· exact rfl); (· (with_reducible first | assumption | rfl | decide)); (· exact rfl)) | (apply op_at; (· exact rfl)) | (apply dwp_cond_t; (· exact rfl); (· (with_reducible first | assumption | rfl | decide))) | apply dwp_ret | (refine ⟨_, rfl, ?_⟩) | fail)
      exact ⟨hB.ab, by simp⟩
    | true =>
      have hn : tab.length ≤ mostD := by
        unfold tabOk at ht
        simp at ht
        unfold mostD; omega
      refine enter rfl Tryd.func12 rfl Tryd.ntmps12 rfl ?_
      dsimp only [List.cons_append, List.nil_append, List.length_cons, List.length_nil, List.replicate_succ, List.replicate_zero, Nat.reduceAdd, Nat.reduceSub]
      repeat' (first | dsimp only [putD, DV.cells, DH.new_next, DH.set_next, List.length_cons, List.length_nil, Nat.reduceAdd, List.set_cons_zero, List.set_cons_succ, getD_zero, getD_succ, fieldAt_zero, fieldAt_succ, thenD, blockD, retR] | apply dwp_seq | apply dwp_region | apply ops_nil | (apply ops_plain; (· exact rfl)) | (apply ops_on; (· exact rfl); (· exact rfl); (· (with_reducible first | assumption | rfl | decide))) | (apply op_call; (· exact rfl); (· exact rfl); (· exact rfl); (refine (check20 hl1 (hs.mono hB.ab)).mono ?_; rintro r H' ⟨rfl, hab⟩; replace hB := hB.grow hab; simp only [ht, if_true, Bool.false_eq_true, if_false])) | (apply op_call; (· exact rfl); (· exact rfl); (· exact rfl); (refine (check21 hl2 (hs2.mono hB.ab)).mono ?_; rintro r H' ⟨rfl, hab⟩; replace hB := hB.grow hab; simp only [he, if_true, Bool.false_eq_true, if_false])) | (apply op_pick_f; (· exact rfl); (· exact rfl); (· (with_reducible first | assumption | rfl | decide)); (· exact rfl)) | (apply bx_makemap; (· exact rfl); (· exact rfl); (· assumption); intro bm H1 hB) | (apply bx_makeL et24; (· exact rfl); (· exact rfl); (· exact rfl); (· exact hn); (· assumption); intro bf H1 hB) | (apply op_at; (· exact rfl)) | (apply dwp_cond_f; (· exact rfl); (· (with_reducible first | assumption | rfl | decide))) | apply dwp_block | apply dwp_skip | fail)
      have hB0 : Bx H H1 [(bf, .rows false 7 (rowsA tab 0)), (bm, .map [])] [] := hB
      refine dwp_loop (fun st => ∃ (M : List Qe) (H1 : DH) (k : Nat), ∃ J : Nat → DV, (Bx H H1 ((bf, .rows false 7 (rowsA tab k)) :: (bm, .map (mapE Ev.dv (M.map Qe.kv))) :: M.flatMap Qe.bx) [] ∧ k ≤ tab.length ∧ QRel M (queue0 tab k) ∧ ∀ e ∈ M, Own1 1 (e.l.map natRow) e.s e.bx) ∧ st = ⟨(.sl p tab.length c ex :: .sl p2 log.length c2 ex2 :: J 2 :: J 3 :: J 4 :: J 5 :: .map (some bm) :: .sl (some (bf, 0, 7)) tab.length tab.length true :: J 8 :: J 9 :: J 10 :: J 11 :: J 12 :: J 13 :: J 14 :: J 15 :: J 16 :: J 17 :: J 18 :: J 19 :: J 20 :: J 21 :: J 22 :: J 23 :: J 24 :: J 25 :: J 26 :: J 27 :: J 28 :: J 29 :: .sl p tab.length c ex :: .int .i64 (tab.length : Int) :: .int .i64 (k : Int) :: J 33 :: J 34 :: J 35 :: J 36 :: J 37 :: J 38 :: J 39 :: J 40 :: J 41 :: J 42 :: J 43 :: J 44 :: J 45 :: J 46 :: J 47 :: J 48 :: J 49 :: J 50 :: J 51 :: J 52 :: J 53 :: J 54 :: J 55 :: J 56 :: J 57 :: J 58 :: J 59 :: J 60 :: J 61 :: J 62 :: J 63 :: J 64 :: J 65 :: J 66 :: J 67 :: J 68 :: J 69 :: J 70 :: J 71 :: J 72 :: J 73 :: J 74 :: J 75 :: J 76 :: J 77 :: J 78 :: J 79 :: J 80 :: J 81 :: J 82 :: J 83 :: J 84 :: J 85 :: J 86 :: J 87 :: J 88 :: J 89 :: J 90 :: J 91 :: J 92 :: J 93 :: J 94 :: J 95 :: J 96 :: J 97 :: J 98 :: J 99 :: J 100 :: J 101 :: J 102 :: J 103 :: J 104 :: J 105 :: J 106 :: J 107 :: J 108 :: J 109 :: J 110 :: J 111 :: J 112 :: J 113 :: J 114 :: J 115 :: J 116 :: J 117 :: J 118 :: J 119 :: J 120 :: []), H1⟩) (fun st => tab.length - kOf st 32) (⟨[], _, 0, junk_facts (⟨hB0, Nat.zero_le _, ⟨fun e h => absurd h (by simp), fun y _ => rfl, by simp⟩, fun e h => absurd h (by simp)⟩) rfl rfl⟩) ?_
      rintro st ⟨M, H1, k, J, ⟨hB, hk, hQ, hO⟩, rfl⟩
      by_cases hlt : k < tab.length
      · obtain ⟨x, hx⟩ : ∃ x, tab[k]? = some x := ⟨tab[k], List.getElem?_eq_getElem hlt⟩
        obtain ⟨loc, i0, ro, rs, rfl, hloc, ho, hrx⟩ := hs.rd (k := k) (r := x.row) (by rw [List.getElem?_map, hx]; rfl)
        have hr1 : rs[i0 + ((k : Int)).toNat]? = some x.row := by rw [Int.toNat_natCast]; exact hrx
        have hc : decide ((k : Int) < (tab.length : Int)) = true := by simp [hlt]
        have hin1 : 0 ≤ (k : Int) ∧ (k : Int) < (tab.length : Int) := by omega
        have hn' : tab.length ≤ 9223372036854775807 := hl1
        have hw : IntKind.i64.wrap ((k : Int) + 1) = ((k + 1 : Nat) : Int) := by rw [wrapI (by omega)]; rfl
        have hset := rowsA_set hx
        rcases find_q (keyOf x) M with ⟨M1, e, M2, rfl, hek, hne, hfind⟩ | ⟨hno, hfind⟩
        · have hfd : findD Tryd.prog 34 (.agg [.int .i64 x.t, .int .i64 11, .int .i64 x.w, .int .i64 x.k, .int .i64 x.u]) (mapE Ev.dv ((M1 ++ e :: M2).map Qe.kv)) = some (some (M1.length, e.s)) := by
            have h := find_mapE (P := Tryd.prog) (kt := 34) (kd := Ev.dv) keqEv (keyOf x) ((M1 ++ e :: M2).map Qe.kv)
            rw [hfind] at h
            exact h
          have hent : (mapE Ev.dv ((M1 ++ e :: M2).map Qe.kv))[M1.length]? = some (.agg [.int .i64 x.t, .int .i64 11, .int .i64 x.w, .int .i64 x.k, .int .i64 x.u], e.s) := by
            unfold mapE
            rw [List.map_map, List.getElem?_map, List.getElem?_append_right (Nat.le_refl _), Nat.sub_self, List.getElem?_cons_zero]
            show some (Ev.dv e.key, e.s) = _
            rw [hek]; rfl
          have hsame : (mapE Ev.dv ((M1 ++ e :: M2).map Qe.kv)).set M1.length (.agg [.int .i64 x.t, .int .i64 11, .int .i64 x.w, .int .i64 x.k, .int .i64 x.u], e.s) = mapE Ev.dv ((M1 ++ e :: M2).map Qe.kv) := by
            obtain ⟨h1, h2⟩ := List.getElem?_eq_some_iff.mp hent
            rw [← h2, List.set_getElem_self]
          have hoe := hO e (by simp)
          have hel : e.l.length ≤ k := by
            rw [hQ.at' e (by simp)]
            exact Nat.le_trans (List.length_filter_le _ _) (by simp)
          have hlen1 : (e.l.map natRow).length + [natRow k].length ≤ mostD := by
            rw [List.length_map]; show e.l.length + 1 ≤ _; unfold mostD at hn ⊢; omega
          rw [show (M1 ++ e :: M2).flatMap Qe.bx = M1.flatMap Qe.bx ++ (e.bx ++ M2.flatMap Qe.bx) by simp] at hB
          repeat' (first | dsimp only [putD, DV.cells, DH.new_next, DH.set_next, List.length_cons, List.length_nil, Nat.reduceAdd, List.set_cons_zero, List.set_cons_succ, getD_zero, getD_succ, fieldAt_zero, fieldAt_succ, thenD, blockD, retR] | apply dwp_seq | apply dwp_region | apply ops_nil | (apply ops_plain; (· exact rfl)) | (apply op_index_at; (· exact rfl); (· exact rfl); (· exact rfl); (· with_reducible exact hin1); (· exact rfl); (· exact rfl)) | (apply op_load_at; (· exact rfl); (· exact rfl); (· exact hB.ab.obj hloc ho); (· exact hr1); (· exact partInjR x)) | (apply bx_store; (· exact rfl); (· exact rfl); (· exact rfl); (· assumption); (· (repeat (first | with_reducible exact Upd.here | with_reducible apply Upd.there))); (· exact hset); (· exact rfl); (· exact rfl); intro H1 hB) | (apply op_told; (· exact rfl); (· exact congrArg (DV.int _) hw)) | (apply bx_buildL et66; (· exact rfl); (· exact rfl); (· exact rfl); (· decide); (· assumption); intro bk H1 hB) | (apply bx_entry1 (hf := hfd) (hko := keyOkE (keyOf x)); (· exact rfl); (· exact rfl); (· exact rfl); (· exact rfl); (· exact zero66); (· assumption); (· (repeat (first | with_reducible exact Upd.here | with_reducible apply Upd.there))); (· exact hsame.symm); (· exact rfl); intro H1 hB) | (apply op_append_own (new := [natRow k]); (· exact rfl); (· exact rfl); (· exact rfl); (· exact et66); (· exact hoe); (· assumption); (· (repeat (first | with_reducible exact Ctx.here | with_reducible apply Ctx.cons | with_reducible apply Ctx.app))); (· exact appended_box rfl (by assumption) At.here); (· simp); (· exact rfl); (· exact hlen1); intro s' x' H1 o' hB) | (apply bx_entryStore (hi := hent) (v := s'); (· exact rfl); (· exact rfl); (· exact rfl); (· exact rfl); (· assumption); (· (repeat (first | with_reducible exact Upd.here | with_reducible apply Upd.there))); (· exact rfl); (· exact rfl); intro H1 hB) | (apply bx_load0; (· exact rfl); (· exact rfl); (· assumption); (· (repeat (first | with_reducible exact At.here | with_reducible apply At.there))); (· (first | exact partInj _ _ _ _ | exact partEv _ _ _ _ _ | exact partFire _ _ _ _ _ _ _ | exact rfl))) | (apply bx_store0; (· exact rfl); (· exact rfl); (· exact rfl); (· assumption); (· (first | (dsimp only [DV.cells, getD_zero, getD_succ, Sv.cells]; done) | (dsimp only [DV.cells, getD_zero, getD_succ, Sv.cells]; exact rfl) | exact rfl)); (· (repeat (first | with_reducible exact Upd.here | with_reducible apply Upd.there))); (· exact rfl); (· exact rfl); (· exact rfl); (· exact rfl); intro H1 hB) | (apply bx_alloc; (· exact rfl); (· exact zero30); (· (first | (dsimp only [DV.cells, getD_zero, getD_succ, Sv.cells]; done) | (dsimp only [DV.cells, getD_zero, getD_succ, Sv.cells]; exact rfl) | exact rfl)); (· exact rfl); (· exact rfl); (· exact rfl); (· assumption); intro b1 H1 hB) | (apply bx_alloc; (· exact rfl); (· exact zero34); (· (first | (dsimp only [DV.cells, getD_zero, getD_succ, Sv.cells]; done) | (dsimp only [DV.cells, getD_zero, getD_succ, Sv.cells]; exact rfl) | exact rfl)); (· exact rfl); (· exact rfl); (· exact rfl); (· assumption); intro b1 H1 hB) | (apply op_at; (· exact rfl)) | (apply dwp_cond_t; (· exact rfl); (· (with_reducible first | assumption | rfl | decide))) | apply dwp_block | apply dwp_skip | fail)
          have hnewm : (mapE Ev.dv ((M1 ++ e :: M2).map Qe.kv)).set M1.length (.agg [.int .i64 x.t, .int .i64 11, .int .i64 x.w, .int .i64 x.k, .int .i64 x.u], s') = mapE Ev.dv ((M1 ++ ⟨e.key, e.l ++ [k], s', x'⟩ :: M2).map Qe.kv) := by
            unfold mapE
            rw [List.map_append, List.map_append, List.map_cons, List.map_cons, List.map_append, List.map_append, List.map_cons, List.map_cons, List.set_append_right _ _ (by simp)]
            have e0 : M1.length - ((M1.map Qe.kv).map fun x => (Ev.dv x.1, x.2)).length = 0 := by simp
            rw [e0, List.set_cons_zero]
            show _ = _ ++ (Ev.dv e.key, s') :: _
            rw [hek]; rfl
          rw [hnewm] at hB
          have hBn := hB.sub (bs' := (bf, .rows false 7 (rowsA tab (k + 1))) :: (bm, .map (mapE Ev.dv ((M1 ++ ⟨e.key, e.l ++ [k], s', x'⟩ :: M2).map Qe.kv))) :: (M1.flatMap Qe.bx ++ (x' ++ M2.flatMap Qe.bx))) (by (repeat (first | exact List.Sublist.refl _ | exact List.nil_sublist _ | apply List.Sublist.cons_cons | apply List.Sublist.cons | apply List.Sublist.append_left | refine List.Sublist.trans ?_ (List.sublist_append_right _ _))))
          refine ⟨⟨M1 ++ ⟨e.key, e.l ++ [k], s', x'⟩ :: M2, _, k + 1, junk_facts ⟨?_, by omega, ?_, ?_⟩ rfl rfl⟩, ?_⟩
          · rw [show (M1 ++ (⟨e.key, e.l ++ [k], s', x'⟩ : Qe) :: M2).flatMap Qe.bx = M1.flatMap Qe.bx ++ (x' ++ M2.flatMap Qe.bx) by simp]
            exact hBn
          · refine hQ.upd rfl ?_ fun y hy => ?_
            · show e.l ++ [k] = _
              rw [queue0_succ hx, if_pos hek, ← hQ.at' e (by simp)]
            · rw [queue0_succ hx, if_neg (by rw [← hek]; exact hy)]
          · intro d hd
            rcases List.mem_append.mp hd with hd | hd
            · exact hO d (List.mem_append_left _ hd)
            · rcases List.mem_cons.mp hd with rfl | hd
              · show Own1 1 ((e.l ++ [k]).map natRow) s' x'
                rw [List.map_append]; exact o'
              · exact hO d (List.mem_append_right _ (List.mem_cons_of_mem _ hd))
          · show tab.length - ((k + 1 : Nat) : Int).toNat < tab.length - (k : Int).toNat
            omega
        · have hfd0 : findD Tryd.prog 34 (.agg [.int .i64 x.t, .int .i64 11, .int .i64 x.w, .int .i64 x.k, .int .i64 x.u]) (mapE Ev.dv (M.map Qe.kv)) = some none := by
            have h := find_mapE (P := Tryd.prog) (kt := 34) (kd := Ev.dv) keqEv (keyOf x) (M.map Qe.kv)
            rw [hfind] at h
            exact h
          have hent : (mapE Ev.dv (M.map Qe.kv) ++ [((.agg (keyOf x).row : DV), (.sl none 0 0 true : DV))])[(mapE Ev.dv (M.map Qe.kv)).length]? = some (.agg (keyOf x).row, .sl none 0 0 true) := by
            rw [List.getElem?_append_right (Nat.le_refl _), Nat.sub_self]; rfl
          have hlen0 : (([] : List (List DV))).length + [natRow k].length ≤ mostD := by show 0 + 1 ≤ mostD; unfold mostD; omega
          repeat' (first | dsimp only [putD, DV.cells, DH.new_next, DH.set_next, List.length_cons, List.length_nil, Nat.reduceAdd, List.set_cons_zero, List.set_cons_succ, getD_zero, getD_succ, fieldAt_zero, fieldAt_succ, thenD, blockD, retR] | apply dwp_seq | apply dwp_region | apply ops_nil | (apply ops_plain; (· exact rfl)) | (apply op_index_at; (· exact rfl); (· exact rfl); (· exact rfl); (· with_reducible exact hin1); (· exact rfl); (· exact rfl)) | (apply op_load_at; (· exact rfl); (· exact rfl); (· exact hB.ab.obj hloc ho); (· exact hr1); (· exact partInjR x)) | (apply bx_store; (· exact rfl); (· exact rfl); (· exact rfl); (· assumption); (· (repeat (first | with_reducible exact Upd.here | with_reducible apply Upd.there))); (· exact hset); (· exact rfl); (· exact rfl); intro H1 hB) | (apply op_told; (· exact rfl); (· exact congrArg (DV.int _) hw)) | (apply bx_buildL et66; (· exact rfl); (· exact rfl); (· exact rfl); (· decide); (· assumption); intro bk H1 hB) | (apply bx_entry0 (hf := hfd0) (hko := keyOkE (keyOf x)); (· exact rfl); (· exact rfl); (· exact rfl); (· exact rfl); (· exact zero66); (· assumption); (· (repeat (first | with_reducible exact Upd.here | with_reducible apply Upd.there | with_reducible apply upd_app58))); (· exact rfl); (· exact rfl); intro H1 hB) | (apply op_append_own (new := [natRow k]) (R := []) (bx := []) (s := .sl none 0 0 true); (· exact rfl); (· exact rfl); (· exact rfl); (· exact et66); (· exact .nil rfl); (· assumption); (· exact Ctx.here (bx := [])); (· exact appended_box rfl (by assumption) At.here); (· simp); (· exact rfl); (· exact hlen0); intro s' x' H1 o' hB) | (apply bx_entryStore (hi := hent) (v := s'); (· exact rfl); (· exact rfl); (· exact rfl); (· exact rfl); (· assumption); (· (repeat (first | with_reducible exact Upd.here | with_reducible apply Upd.there | with_reducible apply upd_app58))); (· exact rfl); (· exact rfl); intro H1 hB) | (apply bx_load0; (· exact rfl); (· exact rfl); (· assumption); (· (repeat (first | with_reducible exact At.here | with_reducible apply At.there | with_reducible apply at_app58))); (· (first | exact partInj _ _ _ _ | exact partEv _ _ _ _ _ | exact partFire _ _ _ _ _ _ _ | exact rfl))) | (apply bx_store0; (· exact rfl); (· exact rfl); (· exact rfl); (· assumption); (· (first | (dsimp only [DV.cells, getD_zero, getD_succ, Sv.cells]; done) | (dsimp only [DV.cells, getD_zero, getD_succ, Sv.cells]; exact rfl) | exact rfl)); (· (repeat (first | with_reducible exact Upd.here | with_reducible apply Upd.there | with_reducible apply upd_app58))); (· exact rfl); (· exact rfl); (· exact rfl); (· exact rfl); intro H1 hB) | (apply bx_alloc; (· exact rfl); (· exact zero30); (· (first | (dsimp only [DV.cells, getD_zero, getD_succ, Sv.cells]; done) | (dsimp only [DV.cells, getD_zero, getD_succ, Sv.cells]; exact rfl) | exact rfl)); (· exact rfl); (· exact rfl); (· exact rfl); (· assumption); intro b1 H1 hB) | (apply bx_alloc; (· exact rfl); (· exact zero34); (· (first | (dsimp only [DV.cells, getD_zero, getD_succ, Sv.cells]; done) | (dsimp only [DV.cells, getD_zero, getD_succ, Sv.cells]; exact rfl) | exact rfl)); (· exact rfl); (· exact rfl); (· exact rfl); (· assumption); intro b1 H1 hB) | (apply op_at; (· exact rfl)) | (apply dwp_cond_t; (· exact rfl); (· (with_reducible first | assumption | rfl | decide))) | apply dwp_block | apply dwp_skip | fail)
          have hnewm : (mapE Ev.dv (M.map Qe.kv) ++ [((.agg (keyOf x).row : DV), (.sl none 0 0 true : DV))]).set (mapE Ev.dv (M.map Qe.kv)).length (.agg (keyOf x).row, s') = mapE Ev.dv ((M ++ [(⟨keyOf x, [k], s', x'⟩ : Qe)]).map Qe.kv) := by
            rw [List.set_append_right _ _ (Nat.le_refl _), Nat.sub_self, List.set_cons_zero]
            unfold mapE
            rw [List.map_append, List.map_append]
            rfl
          rw [hnewm] at hB
          have hBn := hB.sub (bs' := x' ++ ((bf, .rows false 7 (rowsA tab (k + 1))) :: (bm, .map (mapE Ev.dv ((M ++ [(⟨keyOf x, [k], s', x'⟩ : Qe)]).map Qe.kv))) :: M.flatMap Qe.bx)) (by (repeat (first | exact List.Sublist.refl _ | exact List.nil_sublist _ | apply List.Sublist.cons_cons | apply List.Sublist.cons | apply List.Sublist.append_left | refine List.Sublist.trans ?_ (List.sublist_append_right _ _))))
          refine ⟨⟨M ++ [(⟨keyOf x, [k], s', x'⟩ : Qe)], _, k + 1, junk_facts ⟨?_, by omega, ?_, ?_⟩ rfl rfl⟩, ?_⟩
          · rw [show (M ++ [(⟨keyOf x, [k], s', x'⟩ : Qe)]).flatMap Qe.bx = M.flatMap Qe.bx ++ x' by simp]
            exact hBn.perm (List.perm_append_comm)
          · refine hQ.add hno ?_ fun y hy => ?_
            · show [k] = _
              rw [queue0_succ hx, if_pos rfl, hQ.no (keyOf x) hno]; rfl
            · rw [queue0_succ hx, if_neg hy]
          · intro d hd
            rcases List.mem_append.mp hd with hd | hd
            · exact hO d hd
            · rw [List.mem_singleton] at hd; subst hd
              exact o'
          · show tab.length - ((k + 1 : Nat) : Int).toNat < tab.length - (k : Int).toNat
            omega
      · have hkn : k = tab.length := by omega
        subst hkn
        obtain ⟨hBf, hS0⟩ := q_freeze (hB.perm (List.perm_append_comm (l₁ := [_, _]) (l₂ := M.flatMap Qe.bx))) hO
        clear hB
        have hB := hBf
        clear hBf
        have hc : decide ((tab.length : Int) < (tab.length : Int)) = false := by simp
        repeat' (first | dsimp only [putD, DV.cells, DH.new_next, DH.set_next, List.length_cons, List.length_nil, Nat.reduceAdd, List.set_cons_zero, List.set_cons_succ, getD_zero, getD_succ, fieldAt_zero, fieldAt_succ, thenD, blockD, retR] | apply dwp_seq | apply dwp_region | apply ops_nil | (apply ops_plain; (· exact rfl)) | (apply bx_buildL et66; (· exact rfl); (· exact rfl); (· exact rfl); (· decide); (· assumption); intro bo H1 hB) | (apply op_at; (· exact rfl)) | (apply dwp_cond_f; (· exact rfl); (· (with_reducible first | assumption | rfl | decide))) | apply dwp_block | apply dwp_exit | fail)
        have hB1 : Bx H H1 [(bf, .rows false 7 ((stC tab log 0).fires.map Fire.row)), (bm, .map (mapE Ev.dv (M.map Qe.kv))), (bo, .rows false 1 [])] [QF M] := by
          have h := hB.perm (List.perm_append_comm (l₁ := [_]) (l₂ := [_, _]))
          have e : rowsA tab tab.length = (stC tab log 0).fires.map Fire.row := by
            unfold rowsA
            rw [Nat.sub_self, List.take_length, List.replicate_zero, List.append_nil]
            show _ = ((tab.map fun x => Fire.mk x false false 0)).map Fire.row
            rw [List.map_map]; rfl
          rw [← e]; exact h
        have hl20 : log.length ≤ 20000 := by
          unfold evOk at he
          simp only [Bool.and_eq_true, Bool.not_eq_true', Bool.or_eq_false_iff, decide_eq_false_iff_not] at he
          omega
        refine dwp_loop (fun st => ∃ (s : CSt) (M1 : List Qe) (H1 : DH) (j bo co : Nat) (exo : Bool) (ro : List (List DV)), ∃ J : Nat → DV, (Bx H H1 [(bf, .rows false 7 (s.fires.map Fire.row)), (bm, .map (mapE Ev.dv (M1.map Qe.kv))), (bo, .rows false 1 ro)] [QF M] ∧ j ≤ log.length ∧ s = stC tab log j ∧ QRel M1 s.q ∧ (∀ e ∈ M1, SubQ M e) ∧ OpenR s.op co ro ∧ s.op.length ≤ j) ∧ st = ⟨(.sl p tab.length c ex :: .sl p2 log.length c2 ex2 :: J 2 :: J 3 :: J 4 :: J 5 :: .map (some bm) :: .sl (some (bf, 0, 7)) tab.length tab.length true :: J 8 :: J 9 :: J 10 :: .sl (some (bo, 0, 1)) s.op.length co exo :: J 12 :: J 13 :: J 14 :: J 15 :: J 16 :: J 17 :: J 18 :: J 19 :: J 20 :: J 21 :: J 22 :: J 23 :: J 24 :: J 25 :: J 26 :: J 27 :: J 28 :: J 29 :: J 30 :: J 31 :: J 32 :: J 33 :: J 34 :: J 35 :: J 36 :: J 37 :: J 38 :: J 39 :: J 40 :: J 41 :: J 42 :: J 43 :: J 44 :: J 45 :: J 46 :: J 47 :: J 48 :: J 49 :: J 50 :: J 51 :: J 52 :: J 53 :: J 54 :: J 55 :: J 56 :: J 57 :: J 58 :: J 59 :: J 60 :: .sl p2 log.length c2 ex2 :: .int .i64 (log.length : Int) :: .int .i64 (j : Int) :: J 64 :: J 65 :: J 66 :: J 67 :: J 68 :: J 69 :: J 70 :: J 71 :: J 72 :: J 73 :: J 74 :: J 75 :: J 76 :: J 77 :: J 78 :: J 79 :: J 80 :: J 81 :: J 82 :: J 83 :: J 84 :: J 85 :: J 86 :: J 87 :: J 88 :: J 89 :: J 90 :: J 91 :: J 92 :: J 93 :: J 94 :: J 95 :: J 96 :: J 97 :: J 98 :: J 99 :: J 100 :: J 101 :: J 102 :: J 103 :: J 104 :: J 105 :: J 106 :: J 107 :: J 108 :: J 109 :: J 110 :: J 111 :: J 112 :: J 113 :: J 114 :: J 115 :: J 116 :: J 117 :: J 118 :: J 119 :: J 120 :: []), H1⟩) (fun st => log.length - kOf st 63) (⟨stC tab log 0, M, _, 0, bo, 0, true, [], junk_facts (⟨hB1, Nat.zero_le _, rfl, hQ, hS0, ⟨rfl, Nat.le_refl _, rfl⟩, Nat.le_refl _⟩) rfl rfl⟩) ?_
        rintro st ⟨s, M1, H1, j, bo, co, exo, ro, J, ⟨hB, hj, hs1, hQ1, hS1, hOp, hoj⟩, rfl⟩
        have hW := stC_wf tab log j
        rw [← hs1] at hW
        by_cases hlt2 : j < log.length
        · obtain ⟨y, hy⟩ : ∃ y, log[j]? = some y := ⟨log[j], List.getElem?_eq_getElem hlt2⟩
          obtain ⟨loc2, i2, ro2, rs2, rfl, hloc2, ho2, hrx2⟩ := hs2.rd (k := j) (r := y.row) (by rw [List.getElem?_map, hy]; rfl)
          have hr2 : rs2[i2 + ((j : Int)).toNat]? = some y.row := by rw [Int.toNat_natCast]; exact hrx2
          have hc2 : decide ((j : Int) < (log.length : Int)) = true := by simp [hlt2]
          have hinj : 0 ≤ (j : Int) ∧ (j : Int) < (log.length : Int) := by omega
          have hw2 : IntKind.i64.wrap ((j : Int) + 1) = ((j + 1 : Nat) : Int) := by rw [wrapI (by omega)]; rfl
          have h0c : (0 : Int) ≤ 0 ∧ (0 : Int) ≤ (co : Int) := ⟨Int.le_refl _, by omega⟩
          repeat' (first | dsimp only [putD, DV.cells, DH.new_next, DH.set_next, List.length_cons, List.length_nil, Nat.reduceAdd, List.set_cons_zero, List.set_cons_succ, getD_zero, getD_succ, fieldAt_zero, fieldAt_succ, thenD, blockD, retR] | apply dwp_seq | apply dwp_region | apply ops_nil | (apply ops_plain; (· exact rfl)) | (apply op_index_at; (· exact rfl); (· exact rfl); (· exact rfl); (· with_reducible exact hinj); (· exact rfl); (· exact rfl)) | (apply op_load_at; (· exact rfl); (· exact rfl); (· exact hB.ab.obj hloc2 ho2); (· exact hr2); (· exact partEvR y)) | (apply op_at; (· exact opD_slice_hi rfl rfl rfl rfl rfl h0c)) | (apply bx_store0; (· exact rfl); (· exact rfl); (· exact rfl); (· assumption); (· (first | (dsimp only [DV.cells, getD_zero, getD_succ, Sv.cells]; done) | (dsimp only [DV.cells, getD_zero, getD_succ, Sv.cells]; exact rfl) | exact rfl)); (· (repeat (first | with_reducible exact Upd.here | with_reducible apply Upd.there))); (· exact rfl); (· exact rfl); (· exact rfl); (· exact rfl); intro H1 hB) | (apply bx_alloc; (· exact rfl); (· exact zero34); (· (first | (dsimp only [DV.cells, getD_zero, getD_succ, Sv.cells]; done) | (dsimp only [DV.cells, getD_zero, getD_succ, Sv.cells]; exact rfl) | exact rfl)); (· exact rfl); (· exact rfl); (· exact rfl); (· assumption); intro bev H1 hB) | (apply op_at; (· exact rfl)) | (apply dwp_cond_t; (· exact rfl); (· (with_reducible first | assumption | rfl | decide))) | apply dwp_block | apply dwp_skip | fail)
          have hI0 : OpenI s.op 0 (noteOp tab y (s.op.take 0)) co ro := OpenI.init hOp
          have hB2 : Bx H H1 [(bev, .rows false 5 [y.row]), (bf, .rows false 7 ((noteFs tab y s.fires (s.op.take 0)).map Fire.row)), (bm, .map (mapE Ev.dv (M1.map Qe.kv))), (bo, .rows false 1 ro)] [QF M] := hB
          refine dwp_loop (fun st => ∃ (H1 : DH) (i lw : Nat) (ri : List (List DV)) (fs : List Fire), ∃ J : Nat → DV, (Bx H H1 [(bev, .rows false 5 [y.row]), (bf, .rows false 7 (fs.map Fire.row)), (bm, .map (mapE Ev.dv (M1.map Qe.kv))), (bo, .rows false 1 ri)] [QF M] ∧ i ≤ s.op.length ∧ OpenI s.op i (noteOp tab y (s.op.take i)) co ri ∧ fs = noteFs tab y s.fires (s.op.take i) ∧ lw = (noteOp tab y (s.op.take i)).length) ∧ st = ⟨(.sl p tab.length c ex :: .sl (some (loc2, i2, 5)) log.length c2 ex2 :: J 2 :: J 3 :: J 4 :: J 5 :: .map (some bm) :: .sl (some (bf, 0, 7)) tab.length tab.length true :: J 8 :: J 9 :: J 10 :: J 11 :: J 12 :: .ptr (some (bev, 0, 0)) :: .sl (some (bo, 0, 1)) lw co exo :: J 15 :: J 16 :: J 17 :: J 18 :: J 19 :: J 20 :: J 21 :: J 22 :: J 23 :: J 24 :: J 25 :: J 26 :: J 27 :: J 28 :: J 29 :: J 30 :: J 31 :: J 32 :: J 33 :: J 34 :: J 35 :: J 36 :: J 37 :: J 38 :: J 39 :: J 40 :: J 41 :: J 42 :: J 43 :: J 44 :: J 45 :: J 46 :: J 47 :: J 48 :: J 49 :: J 50 :: J 51 :: J 52 :: J 53 :: J 54 :: J 55 :: J 56 :: J 57 :: J 58 :: J 59 :: J 60 :: .sl (some (loc2, i2, 5)) log.length c2 ex2 :: .int .i64 (log.length : Int) :: .int .i64 (j : Int) :: J 64 :: J 65 :: J 66 :: J 67 :: J 68 :: .sl (some (bo, 0, 1)) s.op.length co exo :: .int .i64 (s.op.length : Int) :: .int .i64 (i : Int) :: J 72 :: J 73 :: J 74 :: J 75 :: J 76 :: J 77 :: J 78 :: J 79 :: J 80 :: J 81 :: J 82 :: J 83 :: J 84 :: J 85 :: J 86 :: J 87 :: J 88 :: J 89 :: J 90 :: J 91 :: J 92 :: J 93 :: J 94 :: J 95 :: J 96 :: J 97 :: J 98 :: J 99 :: J 100 :: J 101 :: J 102 :: J 103 :: J 104 :: J 105 :: J 106 :: J 107 :: J 108 :: J 109 :: J 110 :: J 111 :: J 112 :: J 113 :: J 114 :: J 115 :: J 116 :: J 117 :: J 118 :: J 119 :: J 120 :: []), H1⟩) (fun st => s.op.length - kOf st 71) (⟨_, 0, 0, ro, _, junk_facts (⟨hB2, Nat.zero_le _, hI0, rfl, rfl⟩) rfl rfl⟩) ?_
          rintro st ⟨H1, i, lw, ri, fs, J, ⟨hB, hi, hI, hfs0, hlw0⟩, rfl⟩
          by_cases hlt3 : i < s.op.length
          · obtain ⟨v, hv⟩ : ∃ v, s.op[i]? = some v := ⟨s.op[i], List.getElem?_eq_getElem hlt3⟩
            have hwl := hI.le
            rw [← hlw0] at hwl
            have hwc : lw + 1 ≤ co := by have := hOp.le; omega
            have hcl := hI.c
            have hmD : lw + 1 ≤ mostD := by unfold mostD; omega
            obtain ⟨f0, hf0, _, _⟩ := hW.op v (List.mem_of_getElem? hv)
            have hvt : v < tab.length := by rw [← hW.len]; exact (List.getElem?_eq_some_iff.mp hf0).1
            obtain ⟨x, hx⟩ : ∃ x, tab[v]? = some x := ⟨tab[v], List.getElem?_eq_getElem hvt⟩
            obtain ⟨f, hf⟩ : ∃ f, fs[v]? = some f := ⟨_, List.getElem?_eq_getElem (by rw [hfs0, noteFs_len, hW.len]; exact hvt)⟩
            obtain ⟨loc, i0, ro1, rs1, rfl, hloc, ho1, hrx⟩ := hs.rd (k := v) (r := x.row) (by rw [List.getElem?_map, hx]; rfl)
            have hr1 : rs1[i0 + ((v : Int)).toNat]? = some x.row := by rw [Int.toNat_natCast]; exact hrx
            have hri : ri[0 + ((i : Int)).toNat]? = some (natRow v) := by rw [Nat.zero_add, Int.toNat_natCast]; exact hI.rest i v (Nat.le_refl _) hv
            have hc3 : decide ((i : Int) < (s.op.length : Int)) = true := by simp [hlt3]
            have hini : 0 ≤ (i : Int) ∧ (i : Int) < (s.op.length : Int) := by omega
            have hinv : 0 ≤ (v : Int) ∧ (v : Int) < (tab.length : Int) := by omega
            have hw3 : IntKind.i64.wrap ((i : Int) + 1) = ((i + 1 : Nat) : Int) := by rw [wrapI (by omega)]; rfl
            have hset1 := set_det1 hf
            have hset2 := set_det2 hf y
            cases hnt : noticesF x y with
            | true =>
              have hfs : noteFs tab y s.fires (s.op.take (i + 1)) = fs.modify v (markD y) := by rw [noteFs_take hv, notI_at hx, hnt, hfs0]; rfl
              have hop : noteOp tab y (s.op.take (i + 1)) = noteOp tab y (s.op.take i) := by rw [noteOp_take hv, notI_at hx, hnt]; simp
              repeat' (first | dsimp only [putD, DV.cells, DH.new_next, DH.set_next, List.length_cons, List.length_nil, Nat.reduceAdd, List.set_cons_zero, List.set_cons_succ, getD_zero, getD_succ, fieldAt_zero, fieldAt_succ, thenD, blockD, retR] | refine dwp_drawr _ rfl (fun H' => Above H H' ∧ H'.obj bev = some (.rows false 5 [y.row])) ⟨hB.ab, hB.get (by (repeat (first | with_reducible exact At.here | with_reducible apply At.there)))⟩ ?_ | apply drawr_nil | (apply drawr_read; (· (first | exact wanted_plain rfl | (apply wanted_on; (· exact rfl); (· exact rfl); (· (with_reducible first | assumption | rfl | decide))))); (· exact rfl); (· exact rfl); (· intro H' h; exact opD_load rfl rfl h.2 rfl (by (first | exact partInj _ _ _ _ | exact partEv _ _ _ _ _ | exact partFire _ _ _ _ _ _ _ | exact partEvR _ | exact rfl)))) | (apply drawr_read; (· (first | exact wanted_plain rfl | (apply wanted_on; (· exact rfl); (· exact rfl); (· (with_reducible first | assumption | rfl | decide))))); (· exact rfl); (· exact rfl); (· intro H' h; exact opD_load rfl rfl (h.1.obj hloc ho1) hr1 (partInjR x))) | (apply drawr_pure; (· (first | exact wanted_plain rfl | (apply wanted_on; (· exact rfl); (· exact rfl); (· (with_reducible first | assumption | rfl | decide))))); (· exact rfl); (· exact rfl); (· exact opD_index rfl rfl rfl rfl rfl hinv)) | (apply drawr_pure; (· (first | exact wanted_plain rfl | (apply wanted_on; (· exact rfl); (· exact rfl); (· (with_reducible first | assumption | rfl | decide))))); (· exact rfl); (· exact rfl); (· exact rfl)) | (apply drawr_move; (· (first | exact wanted_plain rfl | (apply wanted_on; (· exact rfl); (· exact rfl); (· (with_reducible first | assumption | rfl | decide))))); (· exact rfl)) | apply dwp_seq | apply dwp_region | apply ops_nil | (apply ops_plain; (· exact rfl)) | (apply op_call; (· exact rfl); (· exact rfl); (· exact rfl); (refine (notices14 x y _).mono ?_; rintro r H' ⟨rfl, hab⟩; replace hB := hB.grow hab; refine ⟨⟨hB.ab, hB.get (by (repeat (first | with_reducible exact At.here | with_reducible apply At.there)))⟩, ?_⟩)) | (apply op_index_at; (· exact rfl); (· exact rfl); (· exact rfl); (· with_reducible exact hini); (· exact rfl); (· exact rfl)) | (apply op_load_at; (· exact rfl); (· exact rfl); (· exact hB.get (by (repeat (first | with_reducible exact At.here | with_reducible apply At.there)))); (· exact hri); (· exact rfl)) | (apply bx_store; (· exact rfl); (· exact rfl); (· exact rfl); (· assumption); (· (repeat (first | with_reducible exact Upd.here | with_reducible apply Upd.there))); (· exact hset1); (· exact rfl); (· exact rfl); intro H1 hB) | (apply bx_store; (· exact rfl); (· exact rfl); (· exact rfl); (· assumption); (· (repeat (first | with_reducible exact Upd.here | with_reducible apply Upd.there))); (· exact hset2); (· exact rfl); (· exact rfl); intro H1 hB) | refine ⟨⟨hB.ab, hB.get (by (repeat (first | with_reducible exact At.here | with_reducible apply At.there)))⟩, ?_⟩ | (apply op_told; (· exact rfl); (· exact congrArg (DV.int _) hw3)) | (apply op_at; (· exact rfl)) | (apply dwp_cond_t; (· exact rfl); (· (with_reducible first | assumption | rfl | decide))) | apply dwp_block | apply dwp_skip | apply dwp_exit | fail)
              refine ⟨⟨_, i + 1, lw, ri, _, junk_facts ⟨hB, by omega, ?_, hfs.symm, ?_⟩ rfl rfl⟩, ?_⟩
              · rw [hop]; exact hI.drop
              · rw [hop]; exact hlw0
              · show s.op.length - ((i + 1 : Nat) : Int).toNat < s.op.length - (i : Int).toNat
                omega
            | false =>
              have hfs : noteFs tab y s.fires (s.op.take (i + 1)) = fs := by rw [noteFs_take hv, notI_at hx, hnt, hfs0]; rfl
              have hop : noteOp tab y (s.op.take (i + 1)) = noteOp tab y (s.op.take i) ++ [v] := by rw [noteOp_take hv, notI_at hx, hnt]; simp
              repeat' (first | dsimp only [putD, DV.cells, DH.new_next, DH.set_next, List.length_cons, List.length_nil, Nat.reduceAdd, List.set_cons_zero, List.set_cons_succ, getD_zero, getD_succ, fieldAt_zero, fieldAt_succ, thenD, blockD, retR] | refine dwp_drawr _ rfl (fun H' => Above H H' ∧ H'.obj bev = some (.rows false 5 [y.row])) ⟨hB.ab, hB.get (by (repeat (first | with_reducible exact At.here | with_reducible apply At.there)))⟩ ?_ | apply drawr_nil | (apply drawr_read; (· (first | exact wanted_plain rfl | (apply wanted_on; (· exact rfl); (· exact rfl); (· (with_reducible first | assumption | rfl | decide))))); (· exact rfl); (· exact rfl); (· intro H' h; exact opD_load rfl rfl h.2 rfl (by (first | exact partInj _ _ _ _ | exact partEv _ _ _ _ _ | exact partFire _ _ _ _ _ _ _ | exact partEvR _ | exact rfl)))) | (apply drawr_read; (· (first | exact wanted_plain rfl | (apply wanted_on; (· exact rfl); (· exact rfl); (· (with_reducible first | assumption | rfl | decide))))); (· exact rfl); (· exact rfl); (· intro H' h; exact opD_load rfl rfl (h.1.obj hloc ho1) hr1 (partInjR x))) | (apply drawr_pure; (· (first | exact wanted_plain rfl | (apply wanted_on; (· exact rfl); (· exact rfl); (· (with_reducible first | assumption | rfl | decide))))); (· exact rfl); (· exact rfl); (· exact opD_index rfl rfl rfl rfl rfl hinv)) | (apply drawr_pure; (· (first | exact wanted_plain rfl | (apply wanted_on; (· exact rfl); (· exact rfl); (· (with_reducible first | assumption | rfl | decide))))); (· exact rfl); (· exact rfl); (· exact rfl)) | (apply drawr_move; (· (first | exact wanted_plain rfl | (apply wanted_on; (· exact rfl); (· exact rfl); (· (with_reducible first | assumption | rfl | decide))))); (· exact rfl)) | apply dwp_seq | apply dwp_region | apply ops_nil | (apply ops_plain; (· exact rfl)) | (apply op_call; (· exact rfl); (· exact rfl); (· exact rfl); (refine (notices14 x y _).mono ?_; rintro r H' ⟨rfl, hab⟩; replace hB := hB.grow hab; refine ⟨⟨hB.ab, hB.get (by (repeat (first | with_reducible exact At.here | with_reducible apply At.there)))⟩, ?_⟩)) | (apply op_index_at; (· exact rfl); (· exact rfl); (· exact rfl); (· with_reducible exact hini); (· exact rfl); (· exact rfl)) | (apply op_load_at; (· exact rfl); (· exact rfl); (· exact hB.get (by (repeat (first | with_reducible exact At.here | with_reducible apply At.there)))); (· exact hri); (· exact rfl)) | (apply bx_buildL et66; (· exact rfl); (· exact rfl); (· exact rfl); (· decide); (· assumption); intro bk H1 hB) | (apply op_append_in (row := natRow v); (· exact rfl); (· exact rfl); (· exact rfl); (· exact et66); (· assumption); (· exact appended_box rfl (by assumption) At.here); (· exact ⟨rfl, rfl⟩); (· exact hwc); (· exact hcl); (· exact hmD); (· (repeat (first | with_reducible exact Upd.here | with_reducible apply Upd.there))); intro H1 hB) | (apply op_told; (· exact rfl); (· exact congrArg (DV.int _) hw3)) | (apply op_at; (· exact rfl)) | (apply dwp_cond_t; (· exact rfl); (· (with_reducible first | assumption | rfl | decide))) | (apply dwp_cond_f; (· exact rfl); (· (with_reducible first | assumption | rfl | decide))) | apply dwp_block | apply dwp_skip | fail)
              refine ⟨⟨_, i + 1, lw + 1, _, fs, junk_facts ⟨hB.drop1, by omega, ?_, hfs.symm, ?_⟩ rfl rfl⟩, ?_⟩
              · rw [hop, hlw0]; exact hI.keep hv
              · rw [hop, hlw0, List.length_append]; rfl
              · show s.op.length - ((i + 1 : Nat) : Int).toNat < s.op.length - (i : Int).toNat
                omega
          · have hie : i = s.op.length := by omega
            subst hie
            rw [List.take_length] at hI hfs0 hlw0
            have hOw := hI.fin hOp.le
            have hc3 : decide ((s.op.length : Int) < (s.op.length : Int)) = false := by simp
            subst hlw0 hfs0
            have hnl := noteOp_le tab y s.op
            rcases qlook hQ1 hS1 (hB.has InF.here) y with ⟨p17, c17, ex17, hq, hlk⟩ | ⟨v, r, lq, iq, cq, exq, kq, M2, hq, hfq, hrq, hQ2, hS2, hmq⟩
            · have hst := stC_succ (tab := tab) hy
              rw [← hs1, step_nil hq] at hst
              repeat' (first | dsimp only [putD, DV.cells, DH.new_next, DH.set_next, List.length_cons, List.length_nil, Nat.reduceAdd, List.set_cons_zero, List.set_cons_succ, getD_zero, getD_succ, fieldAt_zero, fieldAt_succ, thenD, blockD, retR] | apply dwp_seq | apply dwp_region | apply ops_nil | (apply ops_plain; (· exact rfl)) | (apply bx_lookupU; (· exact rfl); (· exact rfl); (· exact rfl); (· assumption); (· (repeat (first | with_reducible exact At.here | with_reducible apply At.there))); (· exact hlk)) | (apply op_told; (· exact rfl); (· exact congrArg (DV.int _) hw2)) | (apply bx_load0; (· exact rfl); (· exact rfl); (· assumption); (· (repeat (first | with_reducible exact At.here | with_reducible apply At.there))); (· (first | exact partInj _ _ _ _ | exact partEv _ _ _ _ _ | exact partFire _ _ _ _ _ _ _ | exact partEvR _ | exact rfl))) | (apply op_at; (· exact rfl)) | (apply dwp_cond_f; (· exact rfl); (· (with_reducible first | assumption | rfl | decide))) | apply dwp_skip | apply dwp_exit | fail)
              refine ⟨⟨_, M1, _, j + 1, bo, co, exo, ri, junk_facts ⟨hB.drop1, by omega, hst.symm, hQ1, hS1, hOw, ?_⟩ rfl rfl⟩, ?_⟩
              · show (noteOp tab y s.op).length ≤ j + 1
                omega
              · show log.length - ((j + 1 : Nat) : Int).toNat < log.length - (j : Int).toNat
                omega
            · have hst := stC_succ (tab := tab) hy
              rw [← hs1, step_cons hq] at hst
              have hlk : LK M1 y (.sl (some (lq, iq, 1)) (r.length + 1) cq exq) := .inl ⟨_, hfq⟩
              have hpos : decide (((r.length + 1 : Nat) : Int) > 0) = true := by simp
              have hz0 : (0 : Int) ≤ 0 ∧ (0 : Int) < ((r.length + 1 : Nat) : Int) := by omega
              have hz1 : (0 : Int) ≤ 1 ∧ (1 : Int) ≤ ((r.length + 1 : Nat) : Int) := by omega
              obtain ⟨f0, hf0, _, _⟩ := hW.q y v (by rw [hq]; exact List.mem_cons_self)
              have hvt : v < tab.length := by rw [← hW.len]; exact (List.getElem?_eq_some_iff.mp hf0).1
              have hinv : 0 ≤ (v : Int) ∧ (v : Int) < (tab.length : Int) := by omega
              obtain ⟨f, hf⟩ : ∃ f, (noteFs tab y s.fires s.op)[v]? = some f := ⟨_, List.getElem?_eq_getElem (by rw [noteFs_len, hW.len]; exact hvt)⟩
              have hset3 := set_fired hf
              have hmA : ((noteOp tab y s.op).map natRow).length + [natRow v].length ≤ mostD := by
                rw [List.length_map]; show _ + 1 ≤ _; unfold mostD; omega
              repeat' (first | dsimp only [putD, DV.cells, DH.new_next, DH.set_next, List.length_cons, List.length_nil, Nat.reduceAdd, List.set_cons_zero, List.set_cons_succ, getD_zero, getD_succ, fieldAt_zero, fieldAt_succ, thenD, blockD, retR] | refine dwp_drawr _ rfl (fun H' => Above H H' ∧ H'.obj bev = some (.rows false 5 [y.row])) ⟨hB.ab, hB.get (by (repeat (first | with_reducible exact At.here | with_reducible apply At.there)))⟩ ?_ | apply drawr_nil | (apply drawr_read; (· (first | exact wanted_plain rfl | (apply wanted_on; (· exact rfl); (· exact rfl); (· (with_reducible first | assumption | rfl | decide))))); (· exact rfl); (· exact rfl); (· intro H' h; exact opD_load rfl rfl h.2 rfl (by (first | exact partInj _ _ _ _ | exact partEv _ _ _ _ _ | exact partFire _ _ _ _ _ _ _ | exact partEvR _ | exact rfl)))) | (apply drawr_pure; (· (first | exact wanted_plain rfl | (apply wanted_on; (· exact rfl); (· exact rfl); (· (with_reducible first | assumption | rfl | decide))))); (· exact rfl); (· exact rfl); (· exact rfl)) | (apply drawr_pure; (· (first | exact wanted_plain rfl | (apply wanted_on; (· exact rfl); (· exact rfl); (· (with_reducible first | assumption | rfl | decide))))); (· exact rfl); (· exact rfl); (· exact opD_slice_lo rfl rfl rfl rfl rfl hz1)) | (apply drawr_move; (· (first | exact wanted_plain rfl | (apply wanted_on; (· exact rfl); (· exact rfl); (· (with_reducible first | assumption | rfl | decide))))); (· exact rfl)) | apply dwp_seq | apply dwp_region | apply ops_nil | (apply ops_plain; (· exact rfl)) | (apply bx_lookupU; (· exact rfl); (· exact rfl); (· exact rfl); (· assumption); (· (repeat (first | with_reducible exact At.here | with_reducible apply At.there))); (· exact hlk)) | (apply op_index_at; (· exact rfl); (· exact rfl); (· exact rfl); (· with_reducible exact hz0); (· exact rfl); (· exact rfl)) | (apply op_index_at; (· exact rfl); (· exact rfl); (· exact rfl); (· with_reducible exact hinv); (· exact rfl); (· exact rfl)) | (apply bx_loadQ; (· exact rfl); (· exact rfl); (· assumption); (· exact hrq)) | (apply bx_store; (· exact rfl); (· exact rfl); (· exact rfl); (· assumption); (· (repeat (first | with_reducible exact Upd.here | with_reducible apply Upd.there))); (· exact hset3); (· exact rfl); (· exact rfl); intro H1 hB) | (apply bx_buildL et66; (· exact rfl); (· exact rfl); (· exact rfl); (· decide); (· assumption); intro bk H1 hB) | (apply op_append_own (new := [natRow v]); (· exact rfl); (· exact rfl); (· exact rfl); (· exact et66); (· exact hOw.own); (· assumption); (· (repeat (first | with_reducible exact Ctx.one | with_reducible apply Ctx.cons))); (· exact appended_box rfl (by assumption) At.here); (· simp); (· exact rfl); (· exact hmA); intro s' x' H1 o' hB; obtain ⟨b', c', ex', rs', rfl, rfl, hO'⟩ := open_own o') | (apply bx_update1e; (· exact rfl); (· exact rfl); (· exact rfl); (· exact rfl); (· exact rfl); (· assumption); (· exact keyOkE y); (· exact hfq); (· exact hmq); (· (repeat (first | with_reducible exact Upd.here | with_reducible apply Upd.there))); intro H1 hB) | refine ⟨⟨hB.ab, hB.get (by (repeat (first | with_reducible exact At.here | with_reducible apply At.there)))⟩, ?_⟩ | (apply op_told; (· exact rfl); (· exact congrArg (DV.int _) hw2)) | (apply bx_load0; (· exact rfl); (· exact rfl); (· assumption); (· (repeat (first | with_reducible exact At.here | with_reducible apply At.there))); (· (first | exact partInj _ _ _ _ | exact partEv _ _ _ _ _ | exact partFire _ _ _ _ _ _ _ | exact partEvR _ | exact rfl))) | (apply op_at; (· exact rfl)) | (apply dwp_cond_t; (· exact rfl); (· (with_reducible first | assumption | rfl | decide))) | (apply dwp_cond_f; (· exact rfl); (· (with_reducible first | assumption | rfl | decide))) | apply dwp_exit | fail)
              refine ⟨⟨_, M2, _, j + 1, b', c', ex', rs', junk_facts ⟨hB.drop1.drop1, by omega, hst.symm, hQ2, hS2, hO', ?_⟩ rfl rfl⟩, ?_⟩
              · show (noteOp tab y s.op ++ [v]).length ≤ j + 1
                rw [List.length_append, List.length_singleton]
                omega
              · show log.length - ((j + 1 : Nat) : Int).toNat < log.length - (j : Int).toNat
                omega
        · have hje : j = log.length := by omega
          subst hje
          have hc2 : decide ((log.length : Int) < (log.length : Int)) = false := by simp
          rw [stC_all] at hs1
          repeat' (first | dsimp only [putD, DV.cells, DH.new_next, DH.set_next, List.length_cons, List.length_nil, Nat.reduceAdd, List.set_cons_zero, List.set_cons_succ, getD_zero, getD_succ, fieldAt_zero, fieldAt_succ, thenD, blockD, retR] | apply dwp_seq | apply dwp_region | apply ops_nil | (apply ops_plain; (· exact rfl)) | (apply op_at; (· exact rfl)) | (apply dwp_cond_f; (· exact rfl); (· (with_reducible first | assumption | rfl | decide))) | apply dwp_ret | apply dwp_exit | (refine ⟨_, rfl, ?_⟩) | fail)
          obtain ⟨hb1, hb2, hb3⟩ := hB.obj _ List.mem_cons_self
          subst hs1
          exact ⟨hB.ab, by rw [if_pos ⟨trivial, trivial⟩]; exact ⟨bf, rfl, hb3, hb1, hb2⟩⟩
end Go.Det.C

/- Cover: the chapter's example. -/
namespace Go.Det.C
open Go Go.Det Go.Proofs
set_option maxRecDepth 4000
set_option maxHeartbeats 4000000
set_option linter.unusedVariables false
set_option linter.unusedSimpArgs false
def liveX : Inj := ⟨5000, 5, 1, 5000⟩
def liveL : List Ev := [⟨5000, 11, 1, 5, 5000⟩, ⟨7000, 4, 0, 0, 1⟩]
def liveF : Fire := ⟨liveX, true, true, 7000⟩
theorem live_rep : tabOk [liveX] = true ∧ evOk liveL = true ∧ (reportC [liveX] liveL).fires = [liveF] := by decide +kernel
theorem live_text : textL [liveF] = [99, 114, 97, 115, 104, 32, 49, 32, 53, 110, 115, 32, 102, 105, 114, 101, 100, 32, 97, 116, 32, 55, 110, 115, 10, 49, 32, 111, 102, 32, 49, 32, 100, 101, 116, 101, 99, 116, 101, 100, 32, 49, 10] := by
  have h1 : decN 1 = [49] := decN_lt (by decide)
  have h5 : decN 5 = [53] := decN_lt (by decide)
  have h7 : decN 7 = [55] := decN_lt (by decide)
  simp [textL, tailF, lineF, cameF, faultF, faultL, ptextF, pickU, sgnF, decF, liveF, liveX, h1, h5, h7]
theorem et23 : ElemT Tryd.prog 23 34 5 40 (.agg [.int .i64 0, .int .i64 0, .int .i64 0, .int .i64 0, .int .i64 0]) := ⟨rfl, rfl, rfl, by kernel_rfl, by decide, by decide, rfl, rfl⟩
end Go.Det.C

/- Cover: CoverGrows' walk. -/
namespace Go.Det.C
open Go Go.Det Go.Proofs
set_option maxRecDepth 4000
set_option maxHeartbeats 4000000
set_option linter.unusedVariables false
set_option linter.unusedSimpArgs false
theorem eqStruct {P : Program} {n : Nat} {t : TypeId} {a b : List DV} {fs : Array Field} (hu : P.underlying t = some (.struct fs)) (hs : P.stoodInHeld t = false) (ha : a.all DV.one = true) (hb : b.all DV.one = true) : eqT P (n + 1) t (.agg a) (.agg b) = eqFs P (eqT P n) a b fs.toList := by
  simp only [eqT, hu]
  rw [if_neg (by rw [hs, ha, hb]; simp)]
theorem eqInjT20 (x y : Inj) : eqT Tryd.prog 20 30 (.agg x.row) (.agg y.row) = some (decide (x = y)) := by
  obtain ⟨a, b, c, d⟩ := x
  obtain ⟨a', b', c', d'⟩ := y
  rw [eqStruct (n := 19) Tryd.underlying30 (by decide +kernel) rfl rfl]
  rw [eqFs1 (v := a == a') (by decide) rfl rfl rfl, eqFs1 (v := b == b') (by decide) rfl rfl rfl, eqFs1 (v := c == c') (by decide) rfl rfl rfl, eqFs1 (v := d == d') (by decide) rfl rfl rfl]
  simp only [eqFs, Inj.mk.injEq, beq_iff_eq]
  by_cases h1 : a = a' <;> by_cases h2 : b = b' <;> by_cases h3 : c = c' <;> by_cases h4 : d = d' <;> simp [h1, h2, h3, h4]
theorem eqInjT19 (x y : Inj) : eqT Tryd.prog 19 30 (.agg x.row) (.agg y.row) = some (decide (x = y)) := by
  obtain ⟨a, b, c, d⟩ := x
  obtain ⟨a', b', c', d'⟩ := y
  rw [eqStruct (n := 18) Tryd.underlying30 (by decide +kernel) rfl rfl]
  rw [eqFs1 (v := a == a') (by decide) rfl rfl rfl, eqFs1 (v := b == b') (by decide) rfl rfl rfl, eqFs1 (v := c == c') (by decide) rfl rfl rfl, eqFs1 (v := d == d') (by decide) rfl rfl rfl]
  simp only [eqFs, Inj.mk.injEq, beq_iff_eq]
  by_cases h1 : a = a' <;> by_cases h2 : b = b' <;> by_cases h3 : c = c' <;> by_cases h4 : d = d' <;> simp [h1, h2, h3, h4]
theorem eqInjD (x y : Inj) : eqD Tryd.prog 30 (.agg x.row) (.agg y.row) = some (decide (x = y)) := by
  show (if Tryd.prog.eqGuardType Tryd.prog.depth 30 = true then none else eqT Tryd.prog 20 30 (.agg x.row) (.agg y.row)) = _
  rw [if_neg (by decide +kernel), eqInjT20]
theorem opD_take {P : Program} {cf : CallF} {o : Oper} {env : List DV} {H H0 : DH} {t e : TypeId} {x hi : Operand} {p : Option (Nat × Nat × Nat)} {n c k z : Nat} {ex : Bool} {R : List (List DV)} (ho : o.op = .slice t x none (some hi) none) (hx : evalO env x = some (.sl p n c ex)) (hhi : evalO env hi = some (.int .i64 (k : Int)))
    (hu : P.underlying t = some (.slice e)) (hz : sizeT P e = some z) (hS : Sl H0 z R p) (hk : k ≤ c) : opD P cf o env H = some (.sl p k c ex, H) := by
  cases p with
  | none =>
    have hb : boundD c (.int .i64 (k : Int)) = some k := by simp only [boundD]; rw [if_pos ⟨by omega, by omega⟩, Int.toNat_natCast]
    have hbd : boundsD n c none (some (.int .i64 (k : Int))) none = some (0, k, c) := by
      rw [show boundsD n c none (some (.int .i64 (k : Int))) none = (match boundD c (.int .i64 (k : Int)) with | none => none | some h => some (0, h, c)) from rfl, hb]
    simp only [opD, ho, mover, reader, pureD, hx, hhi, evOpt, Option.map_some, sliceD, hu, rowSz, hz, hbd]
    simp
  | some q =>
    obtain ⟨l, i, y⟩ := q
    obtain rfl := hS.size
    have h := opD_slice_hi (cf := cf) (H := H) ho hx hhi hu hz ⟨by omega, by omega⟩
    rwa [Int.toNat_natCast] at h
end Go.Det.C
