/- What an injection and an event must be; comparing injections. -/
import Derived.Test.YtlmjhpnmfmnmgaaDoorCovT11
namespace Go.Det.C
open Go Go.Det Go.Proofs
set_option maxRecDepth 4000
set_option maxHeartbeats 4000000
set_option linter.unusedVariables false
set_option linter.unusedSimpArgs false
/-- A slice that is built. -/
theorem bx_buildL {P : Program} {X : Ext} {A H : DH} {bs : List (Nat × DObj)} {fs : List (DH → Prop)} {st e : TypeId} {z by_ n : Nat} {z0 : DV} {o : Oper} {env : List DV} {K : DV → DH → Prop} {parts : Array (Nat × Operand)} {vs : List (Nat × DV)} {rs : List (List DV)}
    (E : ElemT P st e z by_ z0) (ho : o.op = .buildSlice st n parts) (hx : evParts (evalO env) parts.toList = some vs) (hr : buildRows z (zerosD z0.cells n) vs = some rs) (hz : n * z ≤ 16777216) (hB : Bx A H bs fs)
    (hk : ∀ b H', Bx A H' ((b, .rows false z rs) :: bs) fs → K (.sl (some (b, 0, z)) n n true) H') : OpWp P X o env H K := by
  obtain ⟨m, rfl⟩ : ∃ m, z = m + 1 := ⟨z - 1, by have := E.pos; omega⟩
  refine op_at (v := .sl (some (H.next, 0, m + 1)) n n true) (H' := H.new (.rows false (m + 1) rs)) ?_ (hk _ _ (hB.box _))
  simp only [opD, ho, mover, moveD, if_true, hx, buildSliceD, E.u, E.zr, E.s]
  rw [if_pos ⟨E.len, E.one, hz⟩]
  rw [hr]
  rfl
/-- A drawn region: what is read is read in boxes. -/
theorem dwp_drawt_bx {P : Program} {X : Ext} {id : Nat} {ops : Array Oper} {env : List DV} {A H : DH} {bs : List (Nat × DObj)} {fs : List (DH → Prop)} {Q : DExit → DSt → Prop} {bef : Array Nat} (hB : Bx A H bs fs) (hbef : Region.before ops = bef)
    (h : DrawT P X ops bef [] (fun H' => Bx A H' bs fs) (fun H' => Bx A H' bs fs) 0 ops.toList ⟨env, H⟩ (fun st' => Q .normal st')) : Dwp P X (.region id ops true) ⟨env, H⟩ Q := dwp_drawt bef hbef _ hB h
theorem et112' : ElemT Tryd.prog 112 2 1 8 (.int .i64 0) := ⟨rfl, rfl, rfl, by kernel_rfl, by decide, by decide, rfl, rfl⟩
theorem et66 : ElemT Tryd.prog 66 3 1 8 (.int .i64 0) := ⟨rfl, rfl, rfl, by kernel_rfl, by decide, by decide, rfl, rfl⟩
/-! ### injections -/
def instantF (x : Inj) : Bool := (x.k == 4) || (x.k == 5)
theorem instant77 (x : Inj) (H : DH) : CallWp Tryd.prog X3 77 [.agg x.row] H (fun r H' => r = .bool (instantF x) ∧ Above H H') := by
  have hB : Bx H H [] [] := Bx.init (fun f hf => by cases hf)
  obtain ⟨xt, xk, xw, xu⟩ := x
  cases h4 : (xk == 4) with
  | true =>
    refine enter rfl Tryd.func77 rfl Tryd.ntmps77 rfl ?_
    dsimp only [List.cons_append, List.nil_append, List.length_cons, List.length_nil, List.replicate_succ, List.replicate_zero, Nat.reduceAdd, Nat.reduceSub]
    repeat' (first | dsimp only [putD, DV.cells, DH.new_next, DH.set_next, List.length_cons, List.length_nil, Nat.reduceAdd, List.set_cons_zero, List.set_cons_succ, getD_zero, getD_succ, fieldAt_zero, fieldAt_succ, thenD, blockD, retR] | apply dwp_seq | apply dwp_region | apply ops_nil | (apply ops_plain; (· exact rfl)) | (apply ops_off0; (· exact rfl); (· exact rfl); (· (with_reducible first | assumption | rfl | decide))) | (apply op_pick_t; (· exact rfl); (· exact rfl); (· (with_reducible first | assumption | rfl | decide)); (· exact rfl)) | (apply bx_load0; (· exact rfl); (· exact rfl); (· assumption); (· (repeat (first | with_reducible exact At.here | with_reducible apply At.there | with_reducible apply at_app))); (· (first | exact partInj _ _ _ _ | exact partEv _ _ _ _ _ | exact rfl))) | (apply bx_box; (· exact rfl); (· exact rfl); (· (first | (dsimp only [DV.cells, getD_zero, getD_succ, Sv.cells]; done) | (dsimp only [DV.cells, getD_zero, getD_succ, Sv.cells]; exact rfl) | exact rfl)); (· exact rfl); (· exact rfl); (· assumption); intro b1 H1 hB) | (apply op_at; (· exact rfl)) | apply dwp_ret | (refine ⟨_, rfl, ?_⟩) | fail)
    exact ⟨by simp only [instantF, h4, Bool.true_or], hB.ab⟩
  | false =>
    refine enter rfl Tryd.func77 rfl Tryd.ntmps77 rfl ?_
    dsimp only [List.cons_append, List.nil_append, List.length_cons, List.length_nil, List.replicate_succ, List.replicate_zero, Nat.reduceAdd, Nat.reduceSub]
    repeat' (first | dsimp only [putD, DV.cells, DH.new_next, DH.set_next, List.length_cons, List.length_nil, Nat.reduceAdd, List.set_cons_zero, List.set_cons_succ, getD_zero, getD_succ, fieldAt_zero, fieldAt_succ, thenD, blockD, retR] | apply dwp_seq | apply dwp_region | apply ops_nil | (apply ops_plain; (· exact rfl)) | (apply ops_on; (· exact rfl); (· exact rfl); (· (with_reducible first | assumption | rfl | decide))) | (apply op_pick_f; (· exact rfl); (· exact rfl); (· (with_reducible first | assumption | rfl | decide)); (· exact rfl)) | (apply bx_load0; (· exact rfl); (· exact rfl); (· assumption); (· (repeat (first | with_reducible exact At.here | with_reducible apply At.there | with_reducible apply at_app))); (· (first | exact partInj _ _ _ _ | exact partEv _ _ _ _ _ | exact rfl))) | (apply bx_box; (· exact rfl); (· exact rfl); (· (first | (dsimp only [DV.cells, getD_zero, getD_succ, Sv.cells]; done) | (dsimp only [DV.cells, getD_zero, getD_succ, Sv.cells]; exact rfl) | exact rfl)); (· exact rfl); (· exact rfl); (· assumption); intro b1 H1 hB) | (apply op_at; (· exact rfl)) | apply dwp_ret | (refine ⟨_, rfl, ?_⟩) | fail)
    exact ⟨by simp only [instantF, h4, Bool.false_or], hB.ab⟩
def offF (x : Inj) : Bool :=
  decide (x.k < 1) || (decide (x.k > 5) || (decide (x.w < 0) || (decide (x.w ≥ if x.k == 3 then 2 else 16) || (decide (x.t < 0) || (decide (x.u < x.t) || (!([x.t, x.u].all fitB) || (instantF x && decide (x.u > x.t))))))))
theorem off48 (x : Inj) (H : DH) : CallWp Tryd.prog X3 48 [.agg x.row] H (fun r H' => r = .bool (offF x) ∧ Above H H') := by
  have hB : Bx H H [] [] := Bx.init (fun f hf => by cases hf)
  obtain ⟨xt, xk, xw, xu⟩ := x
  cases h3 : (xk == 3) with
  | true =>
    cases c0 : decide (xk < 1) with
    | true =>
      refine enter rfl Tryd.func48 rfl Tryd.ntmps48 rfl ?_
      dsimp only [List.cons_append, List.nil_append, List.length_cons, List.length_nil, List.replicate_succ, List.replicate_zero, Nat.reduceAdd, Nat.reduceSub]
      repeat' (first | dsimp only [putD, DV.cells, DH.new_next, DH.set_next, List.length_cons, List.length_nil, Nat.reduceAdd, List.set_cons_zero, List.set_cons_succ, getD_zero, getD_succ, fieldAt_zero, fieldAt_succ, thenD, blockD, retR] | apply dwp_seq | apply dwp_region | apply ops_nil | (apply ops_plain; (· exact rfl)) | (apply ops_off0; (· exact rfl); (· exact rfl); (· (with_reducible first | assumption | rfl | decide))) | (apply ops_offn; (· exact rfl); (· exact rfl)) | (apply op_pick_t; (· exact rfl); (· exact rfl); (· (with_reducible first | assumption | rfl | decide)); (· exact rfl)) | (apply bx_load0; (· exact rfl); (· exact rfl); (· assumption); (· (repeat (first | with_reducible exact At.here | with_reducible apply At.there | with_reducible apply at_app))); (· (first | exact partInj _ _ _ _ | exact partEv _ _ _ _ _ | exact rfl))) | (apply bx_box; (· exact rfl); (· exact rfl); (· (first | (dsimp only [DV.cells, getD_zero, getD_succ, Sv.cells]; done) | (dsimp only [DV.cells, getD_zero, getD_succ, Sv.cells]; exact rfl) | exact rfl)); (· exact rfl); (· exact rfl); (· assumption); intro b1 H1 hB) | (apply op_at; (· exact rfl)) | (apply dwp_cond_t; (· exact rfl); (· (with_reducible first | assumption | rfl | decide))) | apply dwp_ret | (refine ⟨_, rfl, ?_⟩) | fail)
      exact ⟨by simp only [offF, ite_true, Bool.false_eq_true, ite_false, h3, c0, Bool.true_or, Bool.false_or, Bool.true_and, Bool.false_and], hB.ab⟩
    | false =>
      cases c1 : decide (xk > 5) with
      | true =>
        refine enter rfl Tryd.func48 rfl Tryd.ntmps48 rfl ?_
        dsimp only [List.cons_append, List.nil_append, List.length_cons, List.length_nil, List.replicate_succ, List.replicate_zero, Nat.reduceAdd, Nat.reduceSub]
        repeat' (first | dsimp only [putD, DV.cells, DH.new_next, DH.set_next, List.length_cons, List.length_nil, Nat.reduceAdd, List.set_cons_zero, List.set_cons_succ, getD_zero, getD_succ, fieldAt_zero, fieldAt_succ, thenD, blockD, retR] | apply dwp_seq | apply dwp_region | apply ops_nil | (apply ops_plain; (· exact rfl)) | (apply ops_on; (· exact rfl); (· exact rfl); (· (with_reducible first | assumption | rfl | decide))) | (apply ops_off0; (· exact rfl); (· exact rfl); (· (with_reducible first | assumption | rfl | decide))) | (apply ops_offn; (· exact rfl); (· exact rfl)) | (apply op_pick_t; (· exact rfl); (· exact rfl); (· (with_reducible first | assumption | rfl | decide)); (· exact rfl)) | (apply op_pick_f; (· exact rfl); (· exact rfl); (· (with_reducible first | assumption | rfl | decide)); (· exact rfl)) | (apply bx_load0; (· exact rfl); (· exact rfl); (· assumption); (· (repeat (first | with_reducible exact At.here | with_reducible apply At.there | with_reducible apply at_app))); (· (first | exact partInj _ _ _ _ | exact partEv _ _ _ _ _ | exact rfl))) | (apply bx_box; (· exact rfl); (· exact rfl); (· (first | (dsimp only [DV.cells, getD_zero, getD_succ, Sv.cells]; done) | (dsimp only [DV.cells, getD_zero, getD_succ, Sv.cells]; exact rfl) | exact rfl)); (· exact rfl); (· exact rfl); (· assumption); intro b1 H1 hB) | (apply op_at; (· exact rfl)) | (apply dwp_cond_t; (· exact rfl); (· (with_reducible first | assumption | rfl | decide))) | apply dwp_ret | (refine ⟨_, rfl, ?_⟩) | fail)
        exact ⟨by simp only [offF, ite_true, Bool.false_eq_true, ite_false, h3, c0, c1, Bool.true_or, Bool.false_or, Bool.true_and, Bool.false_and], hB.ab⟩
      | false =>
        cases c2 : decide (xw < 0) with
        | true =>
          refine enter rfl Tryd.func48 rfl Tryd.ntmps48 rfl ?_
          dsimp only [List.cons_append, List.nil_append, List.length_cons, List.length_nil, List.replicate_succ, List.replicate_zero, Nat.reduceAdd, Nat.reduceSub]
          repeat' (first | dsimp only [putD, DV.cells, DH.new_next, DH.set_next, List.length_cons, List.length_nil, Nat.reduceAdd, List.set_cons_zero, List.set_cons_succ, getD_zero, getD_succ, fieldAt_zero, fieldAt_succ, thenD, blockD, retR] | apply dwp_seq | apply dwp_region | apply ops_nil | (apply ops_plain; (· exact rfl)) | (apply ops_on; (· exact rfl); (· exact rfl); (· (with_reducible first | assumption | rfl | decide))) | (apply ops_off0; (· exact rfl); (· exact rfl); (· (with_reducible first | assumption | rfl | decide))) | (apply ops_offn; (· exact rfl); (· exact rfl)) | (apply op_pick_t; (· exact rfl); (· exact rfl); (· (with_reducible first | assumption | rfl | decide)); (· exact rfl)) | (apply op_pick_f; (· exact rfl); (· exact rfl); (· (with_reducible first | assumption | rfl | decide)); (· exact rfl)) | (apply bx_load0; (· exact rfl); (· exact rfl); (· assumption); (· (repeat (first | with_reducible exact At.here | with_reducible apply At.there | with_reducible apply at_app))); (· (first | exact partInj _ _ _ _ | exact partEv _ _ _ _ _ | exact rfl))) | (apply bx_box; (· exact rfl); (· exact rfl); (· (first | (dsimp only [DV.cells, getD_zero, getD_succ, Sv.cells]; done) | (dsimp only [DV.cells, getD_zero, getD_succ, Sv.cells]; exact rfl) | exact rfl)); (· exact rfl); (· exact rfl); (· assumption); intro b1 H1 hB) | (apply op_at; (· exact rfl)) | (apply dwp_cond_t; (· exact rfl); (· (with_reducible first | assumption | rfl | decide))) | apply dwp_ret | (refine ⟨_, rfl, ?_⟩) | fail)
          exact ⟨by simp only [offF, ite_true, Bool.false_eq_true, ite_false, h3, c0, c1, c2, Bool.true_or, Bool.false_or, Bool.true_and, Bool.false_and], hB.ab⟩
        | false =>
          cases c3 : decide (xw ≥ 2) with
          | true =>
            refine enter rfl Tryd.func48 rfl Tryd.ntmps48 rfl ?_
            dsimp only [List.cons_append, List.nil_append, List.length_cons, List.length_nil, List.replicate_succ, List.replicate_zero, Nat.reduceAdd, Nat.reduceSub]
            repeat' (first | dsimp only [putD, DV.cells, DH.new_next, DH.set_next, List.length_cons, List.length_nil, Nat.reduceAdd, List.set_cons_zero, List.set_cons_succ, getD_zero, getD_succ, fieldAt_zero, fieldAt_succ, thenD, blockD, retR] | apply dwp_seq | apply dwp_region | apply ops_nil | (apply ops_plain; (· exact rfl)) | (apply ops_on; (· exact rfl); (· exact rfl); (· (with_reducible first | assumption | rfl | decide))) | (apply ops_off0; (· exact rfl); (· exact rfl); (· (with_reducible first | assumption | rfl | decide))) | (apply ops_offn; (· exact rfl); (· exact rfl)) | (apply op_pick_t; (· exact rfl); (· exact rfl); (· (with_reducible first | assumption | rfl | decide)); (· exact rfl)) | (apply op_pick_f; (· exact rfl); (· exact rfl); (· (with_reducible first | assumption | rfl | decide)); (· exact rfl)) | (apply bx_load0; (· exact rfl); (· exact rfl); (· assumption); (· (repeat (first | with_reducible exact At.here | with_reducible apply At.there | with_reducible apply at_app))); (· (first | exact partInj _ _ _ _ | exact partEv _ _ _ _ _ | exact rfl))) | (apply bx_box; (· exact rfl); (· exact rfl); (· (first | (dsimp only [DV.cells, getD_zero, getD_succ, Sv.cells]; done) | (dsimp only [DV.cells, getD_zero, getD_succ, Sv.cells]; exact rfl) | exact rfl)); (· exact rfl); (· exact rfl); (· assumption); intro b1 H1 hB) | (apply op_at; (· exact rfl)) | (apply dwp_cond_t; (· exact rfl); (· (with_reducible first | assumption | rfl | decide))) | apply dwp_ret | (refine ⟨_, rfl, ?_⟩) | fail)
            exact ⟨by simp only [offF, ite_true, Bool.false_eq_true, ite_false, h3, c0, c1, c2, c3, Bool.true_or, Bool.false_or, Bool.true_and, Bool.false_and], hB.ab⟩
          | false =>
            cases c4 : decide (xt < 0) with
            | true =>
              refine enter rfl Tryd.func48 rfl Tryd.ntmps48 rfl ?_
              dsimp only [List.cons_append, List.nil_append, List.length_cons, List.length_nil, List.replicate_succ, List.replicate_zero, Nat.reduceAdd, Nat.reduceSub]
              repeat' (first | dsimp only [putD, DV.cells, DH.new_next, DH.set_next, List.length_cons, List.length_nil, Nat.reduceAdd, List.set_cons_zero, List.set_cons_succ, getD_zero, getD_succ, fieldAt_zero, fieldAt_succ, thenD, blockD, retR] | apply dwp_seq | apply dwp_region | apply ops_nil | (apply ops_plain; (· exact rfl)) | (apply ops_on; (· exact rfl); (· exact rfl); (· (with_reducible first | assumption | rfl | decide))) | (apply ops_off0; (· exact rfl); (· exact rfl); (· (with_reducible first | assumption | rfl | decide))) | (apply ops_offn; (· exact rfl); (· exact rfl)) | (apply op_pick_t; (· exact rfl); (· exact rfl); (· (with_reducible first | assumption | rfl | decide)); (· exact rfl)) | (apply op_pick_f; (· exact rfl); (· exact rfl); (· (with_reducible first | assumption | rfl | decide)); (· exact rfl)) | (apply bx_load0; (· exact rfl); (· exact rfl); (· assumption); (· (repeat (first | with_reducible exact At.here | with_reducible apply At.there | with_reducible apply at_app))); (· (first | exact partInj _ _ _ _ | exact partEv _ _ _ _ _ | exact rfl))) | (apply bx_box; (· exact rfl); (· exact rfl); (· (first | (dsimp only [DV.cells, getD_zero, getD_succ, Sv.cells]; done) | (dsimp only [DV.cells, getD_zero, getD_succ, Sv.cells]; exact rfl) | exact rfl)); (· exact rfl); (· exact rfl); (· assumption); intro b1 H1 hB) | (apply op_at; (· exact rfl)) | (apply dwp_cond_t; (· exact rfl); (· (with_reducible first | assumption | rfl | decide))) | apply dwp_ret | (refine ⟨_, rfl, ?_⟩) | fail)
              exact ⟨by simp only [offF, ite_true, Bool.false_eq_true, ite_false, h3, c0, c1, c2, c3, c4, Bool.true_or, Bool.false_or, Bool.true_and, Bool.false_and], hB.ab⟩
            | false =>
              cases c5 : decide (xu < xt) with
              | true =>
                refine enter rfl Tryd.func48 rfl Tryd.ntmps48 rfl ?_
                dsimp only [List.cons_append, List.nil_append, List.length_cons, List.length_nil, List.replicate_succ, List.replicate_zero, Nat.reduceAdd, Nat.reduceSub]
                repeat' (first | dsimp only [putD, DV.cells, DH.new_next, DH.set_next, List.length_cons, List.length_nil, Nat.reduceAdd, List.set_cons_zero, List.set_cons_succ, getD_zero, getD_succ, fieldAt_zero, fieldAt_succ, thenD, blockD, retR] | apply dwp_seq | apply dwp_region | apply ops_nil | (apply ops_plain; (· exact rfl)) | (apply ops_on; (· exact rfl); (· exact rfl); (· (with_reducible first | assumption | rfl | decide))) | (apply ops_off0; (· exact rfl); (· exact rfl); (· (with_reducible first | assumption | rfl | decide))) | (apply ops_offn; (· exact rfl); (· exact rfl)) | (apply op_pick_t; (· exact rfl); (· exact rfl); (· (with_reducible first | assumption | rfl | decide)); (· exact rfl)) | (apply op_pick_f; (· exact rfl); (· exact rfl); (· (with_reducible first | assumption | rfl | decide)); (· exact rfl)) | (apply bx_load0; (· exact rfl); (· exact rfl); (· assumption); (· (repeat (first | with_reducible exact At.here | with_reducible apply At.there | with_reducible apply at_app))); (· (first | exact partInj _ _ _ _ | exact partEv _ _ _ _ _ | exact rfl))) | (apply bx_box; (· exact rfl); (· exact rfl); (· (first | (dsimp only [DV.cells, getD_zero, getD_succ, Sv.cells]; done) | (dsimp only [DV.cells, getD_zero, getD_succ, Sv.cells]; exact rfl) | exact rfl)); (· exact rfl); (· exact rfl); (· assumption); intro b1 H1 hB) | (apply op_at; (· exact rfl)) | (apply dwp_cond_t; (· exact rfl); (· (with_reducible first | assumption | rfl | decide))) | apply dwp_ret | (refine ⟨_, rfl, ?_⟩) | fail)
                exact ⟨by simp only [offF, ite_true, Bool.false_eq_true, ite_false, h3, c0, c1, c2, c3, c4, c5, Bool.true_or, Bool.false_or, Bool.true_and, Bool.false_and], hB.ab⟩
              | false =>
                cases c6 : (!([xt, xu].all fitB)) with
                | true =>
                  refine enter rfl Tryd.func48 rfl Tryd.ntmps48 rfl ?_
                  dsimp only [List.cons_append, List.nil_append, List.length_cons, List.length_nil, List.replicate_succ, List.replicate_zero, Nat.reduceAdd, Nat.reduceSub]
                  repeat' (first | dsimp only [putD, DV.cells, DH.new_next, DH.set_next, List.length_cons, List.length_nil, Nat.reduceAdd, List.set_cons_zero, List.set_cons_succ, getD_zero, getD_succ, fieldAt_zero, fieldAt_succ, thenD, blockD, retR] | apply dwp_seq | apply dwp_region | apply ops_nil | (apply ops_plain; (· exact rfl)) | (apply ops_on; (· exact rfl); (· exact rfl); (· (with_reducible first | assumption | rfl | decide))) | (apply ops_off0; (· exact rfl); (· exact rfl); (· (with_reducible first | assumption | rfl | decide))) | (apply ops_offn; (· exact rfl); (· exact rfl)) | (apply op_call; (· exact rfl); (· exact rfl); (· exact rfl); (refine (CallWp.up up13' (may69e (.two (Bx.get (by assumption) At.here)))).mono ?_; rintro r H' ⟨rfl, rfl⟩)) | (apply op_pick_t; (· exact rfl); (· exact rfl); (· (with_reducible first | assumption | rfl | decide)); (· exact rfl)) | (apply op_pick_f; (· exact rfl); (· exact rfl); (· (with_reducible first | assumption | rfl | decide)); (· exact rfl)) | (apply bx_buildL et112'; (· exact rfl); (· exact rfl); (· exact rfl); (· decide); (· assumption); intro bn H1 hB) | (apply bx_load0; (· exact rfl); (· exact rfl); (· assumption); (· (repeat (first | with_reducible exact At.here | with_reducible apply At.there | with_reducible apply at_app))); (· (first | exact partInj _ _ _ _ | exact partEv _ _ _ _ _ | exact rfl))) | (apply bx_box; (· exact rfl); (· exact rfl); (· (first | (dsimp only [DV.cells, getD_zero, getD_succ, Sv.cells]; done) | (dsimp only [DV.cells, getD_zero, getD_succ, Sv.cells]; exact rfl) | exact rfl)); (· exact rfl); (· exact rfl); (· assumption); intro b1 H1 hB) | (apply op_at; (· exact rfl)) | (apply dwp_cond_t; (· exact rfl); (· (with_reducible first | assumption | rfl | decide))) | apply dwp_ret | (refine ⟨_, rfl, ?_⟩) | fail)
                  exact ⟨by simp only [offF, ite_true, Bool.false_eq_true, ite_false, h3, c0, c1, c2, c3, c4, c5, c6, Bool.true_or, Bool.false_or, Bool.true_and, Bool.false_and], hB.ab⟩
                | false =>
                  cases c7 : (instantF ⟨xt, xk, xw, xu⟩) with
                  | true =>
                    refine enter rfl Tryd.func48 rfl Tryd.ntmps48 rfl ?_
                    dsimp only [List.cons_append, List.nil_append, List.length_cons, List.length_nil, List.replicate_succ, List.replicate_zero, Nat.reduceAdd, Nat.reduceSub]
                    repeat' (first | dsimp only [putD, DV.cells, DH.new_next, DH.set_next, List.length_cons, List.length_nil, Nat.reduceAdd, List.set_cons_zero, List.set_cons_succ, getD_zero, getD_succ, fieldAt_zero, fieldAt_succ, thenD, blockD, retR] | apply dwp_seq | apply dwp_region | apply ops_nil | (apply ops_plain; (· exact rfl)) | (apply ops_on; (· exact rfl); (· exact rfl); (· (with_reducible first | assumption | rfl | decide))) | (apply op_call; (· exact rfl); (· exact rfl); (· exact rfl); (refine (CallWp.up up13' (may69e (.two (Bx.get (by assumption) At.here)))).mono ?_; rintro r H' ⟨rfl, rfl⟩)) | (apply op_call; (· exact rfl); (· exact rfl); (· exact rfl); (refine (instant77 ⟨xt, xk, xw, xu⟩ _).mono ?_; rintro r H' ⟨rfl, hab⟩; replace hB := hB.grow hab)) | (apply op_pick_t; (· exact rfl); (· exact rfl); (· (with_reducible first | assumption | rfl | decide)); (· exact rfl)) | (apply op_pick_f; (· exact rfl); (· exact rfl); (· (with_reducible first | assumption | rfl | decide)); (· exact rfl)) | (apply bx_buildL et112'; (· exact rfl); (· exact rfl); (· exact rfl); (· decide); (· assumption); intro bn H1 hB) | (apply bx_load0; (· exact rfl); (· exact rfl); (· assumption); (· (repeat (first | with_reducible exact At.here | with_reducible apply At.there | with_reducible apply at_app))); (· (first | exact partInj _ _ _ _ | exact partEv _ _ _ _ _ | exact rfl))) | (apply bx_box; (· exact rfl); (· exact rfl); (· (first | (dsimp only [DV.cells, getD_zero, getD_succ, Sv.cells]; done) | (dsimp only [DV.cells, getD_zero, getD_succ, Sv.cells]; exact rfl) | exact rfl)); (· exact rfl); (· exact rfl); (· assumption); intro b1 H1 hB) | (apply op_at; (· exact rfl)) | (apply dwp_cond_t; (· exact rfl); (· (with_reducible first | assumption | rfl | decide))) | apply dwp_ret | (refine ⟨_, rfl, ?_⟩) | fail)
                    exact ⟨by simp only [offF, ite_true, Bool.false_eq_true, ite_false, h3, c0, c1, c2, c3, c4, c5, c6, c7, Bool.true_or, Bool.false_or, Bool.true_and, Bool.false_and], hB.ab⟩
                  | false =>
                    refine enter rfl Tryd.func48 rfl Tryd.ntmps48 rfl ?_
                    dsimp only [List.cons_append, List.nil_append, List.length_cons, List.length_nil, List.replicate_succ, List.replicate_zero, Nat.reduceAdd, Nat.reduceSub]
                    repeat' (first | dsimp only [putD, DV.cells, DH.new_next, DH.set_next, List.length_cons, List.length_nil, Nat.reduceAdd, List.set_cons_zero, List.set_cons_succ, getD_zero, getD_succ, fieldAt_zero, fieldAt_succ, thenD, blockD, retR] | apply dwp_seq | apply dwp_region | apply ops_nil | (apply ops_plain; (· exact rfl)) | (apply ops_on; (· exact rfl); (· exact rfl); (· (with_reducible first | assumption | rfl | decide))) | (apply ops_off1; (· exact rfl); (· exact rfl); (· (with_reducible first | assumption | rfl | decide))) | (apply op_call; (· exact rfl); (· exact rfl); (· exact rfl); (refine (CallWp.up up13' (may69e (.two (Bx.get (by assumption) At.here)))).mono ?_; rintro r H' ⟨rfl, rfl⟩)) | (apply op_call; (· exact rfl); (· exact rfl); (· exact rfl); (refine (instant77 ⟨xt, xk, xw, xu⟩ _).mono ?_; rintro r H' ⟨rfl, hab⟩; replace hB := hB.grow hab)) | (apply op_pick_f; (· exact rfl); (· exact rfl); (· (with_reducible first | assumption | rfl | decide)); (· exact rfl)) | (apply bx_buildL et112'; (· exact rfl); (· exact rfl); (· exact rfl); (· decide); (· assumption); intro bn H1 hB) | (apply bx_load0; (· exact rfl); (· exact rfl); (· assumption); (· (repeat (first | with_reducible exact At.here | with_reducible apply At.there | with_reducible apply at_app))); (· (first | exact partInj _ _ _ _ | exact partEv _ _ _ _ _ | exact rfl))) | (apply bx_box; (· exact rfl); (· exact rfl); (· (first | (dsimp only [DV.cells, getD_zero, getD_succ, Sv.cells]; done) | (dsimp only [DV.cells, getD_zero, getD_succ, Sv.cells]; exact rfl) | exact rfl)); (· exact rfl); (· exact rfl); (· assumption); intro b1 H1 hB) | (apply op_at; (· exact rfl)) | (apply dwp_cond_t; (· exact rfl); (· (with_reducible first | assumption | rfl | decide))) | apply dwp_ret | (refine ⟨_, rfl, ?_⟩) | fail)
                    exact ⟨by simp only [offF, ite_true, Bool.false_eq_true, ite_false, h3, c0, c1, c2, c3, c4, c5, c6, c7, Bool.true_or, Bool.false_or, Bool.true_and, Bool.false_and], hB.ab⟩
  | false =>
    cases c0 : decide (xk < 1) with
    | true =>
      refine enter rfl Tryd.func48 rfl Tryd.ntmps48 rfl ?_
      dsimp only [List.cons_append, List.nil_append, List.length_cons, List.length_nil, List.replicate_succ, List.replicate_zero, Nat.reduceAdd, Nat.reduceSub]
      repeat' (first | dsimp only [putD, DV.cells, DH.new_next, DH.set_next, List.length_cons, List.length_nil, Nat.reduceAdd, List.set_cons_zero, List.set_cons_succ, getD_zero, getD_succ, fieldAt_zero, fieldAt_succ, thenD, blockD, retR] | apply dwp_seq | apply dwp_region | apply ops_nil | (apply ops_plain; (· exact rfl)) | (apply ops_off0; (· exact rfl); (· exact rfl); (· (with_reducible first | assumption | rfl | decide))) | (apply ops_offn; (· exact rfl); (· exact rfl)) | (apply op_pick_t; (· exact rfl); (· exact rfl); (· (with_reducible first | assumption | rfl | decide)); (· exact rfl)) | (apply bx_load0; (· exact rfl); (· exact rfl); (· assumption); (· (repeat (first | with_reducible exact At.here | with_reducible apply At.there | with_reducible apply at_app))); (· (first | exact partInj _ _ _ _ | exact partEv _ _ _ _ _ | exact rfl))) | (apply bx_box; (· exact rfl); (· exact rfl); (· (first | (dsimp only [DV.cells, getD_zero, getD_succ, Sv.cells]; done) | (dsimp only [DV.cells, getD_zero, getD_succ, Sv.cells]; exact rfl) | exact rfl)); (· exact rfl); (· exact rfl); (· assumption); intro b1 H1 hB) | (apply op_at; (· exact rfl)) | (apply dwp_cond_f; (· exact rfl); (· (with_reducible first | assumption | rfl | decide))) | apply dwp_skip | apply dwp_ret | (refine ⟨_, rfl, ?_⟩) | fail)
      exact ⟨by simp only [offF, ite_true, Bool.false_eq_true, ite_false, h3, c0, Bool.true_or, Bool.false_or, Bool.true_and, Bool.false_and], hB.ab⟩
    | false =>
      cases c1 : decide (xk > 5) with
      | true =>
        refine enter rfl Tryd.func48 rfl Tryd.ntmps48 rfl ?_
        dsimp only [List.cons_append, List.nil_append, List.length_cons, List.length_nil, List.replicate_succ, List.replicate_zero, Nat.reduceAdd, Nat.reduceSub]
        repeat' (first | dsimp only [putD, DV.cells, DH.new_next, DH.set_next, List.length_cons, List.length_nil, Nat.reduceAdd, List.set_cons_zero, List.set_cons_succ, getD_zero, getD_succ, fieldAt_zero, fieldAt_succ, thenD, blockD, retR] | apply dwp_seq | apply dwp_region | apply ops_nil | (apply ops_plain; (· exact rfl)) | (apply ops_on; (· exact rfl); (· exact rfl); (· (with_reducible first | assumption | rfl | decide))) | (apply ops_off0; (· exact rfl); (· exact rfl); (· (with_reducible first | assumption | rfl | decide))) | (apply ops_offn; (· exact rfl); (· exact rfl)) | (apply op_pick_t; (· exact rfl); (· exact rfl); (· (with_reducible first | assumption | rfl | decide)); (· exact rfl)) | (apply op_pick_f; (· exact rfl); (· exact rfl); (· (with_reducible first | assumption | rfl | decide)); (· exact rfl)) | (apply bx_load0; (· exact rfl); (· exact rfl); (· assumption); (· (repeat (first | with_reducible exact At.here | with_reducible apply At.there | with_reducible apply at_app))); (· (first | exact partInj _ _ _ _ | exact partEv _ _ _ _ _ | exact rfl))) | (apply bx_box; (· exact rfl); (· exact rfl); (· (first | (dsimp only [DV.cells, getD_zero, getD_succ, Sv.cells]; done) | (dsimp only [DV.cells, getD_zero, getD_succ, Sv.cells]; exact rfl) | exact rfl)); (· exact rfl); (· exact rfl); (· assumption); intro b1 H1 hB) | (apply op_at; (· exact rfl)) | (apply dwp_cond_f; (· exact rfl); (· (with_reducible first | assumption | rfl | decide))) | apply dwp_skip | apply dwp_ret | (refine ⟨_, rfl, ?_⟩) | fail)
        exact ⟨by simp only [offF, ite_true, Bool.false_eq_true, ite_false, h3, c0, c1, Bool.true_or, Bool.false_or, Bool.true_and, Bool.false_and], hB.ab⟩
      | false =>
        cases c2 : decide (xw < 0) with
        | true =>
          refine enter rfl Tryd.func48 rfl Tryd.ntmps48 rfl ?_
          dsimp only [List.cons_append, List.nil_append, List.length_cons, List.length_nil, List.replicate_succ, List.replicate_zero, Nat.reduceAdd, Nat.reduceSub]
          repeat' (first | dsimp only [putD, DV.cells, DH.new_next, DH.set_next, List.length_cons, List.length_nil, Nat.reduceAdd, List.set_cons_zero, List.set_cons_succ, getD_zero, getD_succ, fieldAt_zero, fieldAt_succ, thenD, blockD, retR] | apply dwp_seq | apply dwp_region | apply ops_nil | (apply ops_plain; (· exact rfl)) | (apply ops_on; (· exact rfl); (· exact rfl); (· (with_reducible first | assumption | rfl | decide))) | (apply ops_off0; (· exact rfl); (· exact rfl); (· (with_reducible first | assumption | rfl | decide))) | (apply ops_offn; (· exact rfl); (· exact rfl)) | (apply op_pick_t; (· exact rfl); (· exact rfl); (· (with_reducible first | assumption | rfl | decide)); (· exact rfl)) | (apply op_pick_f; (· exact rfl); (· exact rfl); (· (with_reducible first | assumption | rfl | decide)); (· exact rfl)) | (apply bx_load0; (· exact rfl); (· exact rfl); (· assumption); (· (repeat (first | with_reducible exact At.here | with_reducible apply At.there | with_reducible apply at_app))); (· (first | exact partInj _ _ _ _ | exact partEv _ _ _ _ _ | exact rfl))) | (apply bx_box; (· exact rfl); (· exact rfl); (· (first | (dsimp only [DV.cells, getD_zero, getD_succ, Sv.cells]; done) | (dsimp only [DV.cells, getD_zero, getD_succ, Sv.cells]; exact rfl) | exact rfl)); (· exact rfl); (· exact rfl); (· assumption); intro b1 H1 hB) | (apply op_at; (· exact rfl)) | (apply dwp_cond_f; (· exact rfl); (· (with_reducible first | assumption | rfl | decide))) | apply dwp_skip | apply dwp_ret | (refine ⟨_, rfl, ?_⟩) | fail)
          exact ⟨by simp only [offF, ite_true, Bool.false_eq_true, ite_false, h3, c0, c1, c2, Bool.true_or, Bool.false_or, Bool.true_and, Bool.false_and], hB.ab⟩
        | false =>
          cases c3 : decide (xw ≥ 16) with
          | true =>
            refine enter rfl Tryd.func48 rfl Tryd.ntmps48 rfl ?_
            dsimp only [List.cons_append, List.nil_append, List.length_cons, List.length_nil, List.replicate_succ, List.replicate_zero, Nat.reduceAdd, Nat.reduceSub]
            repeat' (first | dsimp only [putD, DV.cells, DH.new_next, DH.set_next, List.length_cons, List.length_nil, Nat.reduceAdd, List.set_cons_zero, List.set_cons_succ, getD_zero, getD_succ, fieldAt_zero, fieldAt_succ, thenD, blockD, retR] | apply dwp_seq | apply dwp_region | apply ops_nil | (apply ops_plain; (· exact rfl)) | (apply ops_on; (· exact rfl); (· exact rfl); (· (with_reducible first | assumption | rfl | decide))) | (apply ops_off0; (· exact rfl); (· exact rfl); (· (with_reducible first | assumption | rfl | decide))) | (apply ops_offn; (· exact rfl); (· exact rfl)) | (apply op_pick_t; (· exact rfl); (· exact rfl); (· (with_reducible first | assumption | rfl | decide)); (· exact rfl)) | (apply op_pick_f; (· exact rfl); (· exact rfl); (· (with_reducible first | assumption | rfl | decide)); (· exact rfl)) | (apply bx_load0; (· exact rfl); (· exact rfl); (· assumption); (· (repeat (first | with_reducible exact At.here | with_reducible apply At.there | with_reducible apply at_app))); (· (first | exact partInj _ _ _ _ | exact partEv _ _ _ _ _ | exact rfl))) | (apply bx_box; (· exact rfl); (· exact rfl); (· (first | (dsimp only [DV.cells, getD_zero, getD_succ, Sv.cells]; done) | (dsimp only [DV.cells, getD_zero, getD_succ, Sv.cells]; exact rfl) | exact rfl)); (· exact rfl); (· exact rfl); (· assumption); intro b1 H1 hB) | (apply op_at; (· exact rfl)) | (apply dwp_cond_f; (· exact rfl); (· (with_reducible first | assumption | rfl | decide))) | apply dwp_skip | apply dwp_ret | (refine ⟨_, rfl, ?_⟩) | fail)
            exact ⟨by simp only [offF, ite_true, Bool.false_eq_true, ite_false, h3, c0, c1, c2, c3, Bool.true_or, Bool.false_or, Bool.true_and, Bool.false_and], hB.ab⟩
          | false =>
            cases c4 : decide (xt < 0) with
            | true =>
              refine enter rfl Tryd.func48 rfl Tryd.ntmps48 rfl ?_
              dsimp only [List.cons_append, List.nil_append, List.length_cons, List.length_nil, List.replicate_succ, List.replicate_zero, Nat.reduceAdd, Nat.reduceSub]
              repeat' (first | dsimp only [putD, DV.cells, DH.new_next, DH.set_next, List.length_cons, List.length_nil, Nat.reduceAdd, List.set_cons_zero, List.set_cons_succ, getD_zero, getD_succ, fieldAt_zero, fieldAt_succ, thenD, blockD, retR] | apply dwp_seq | apply dwp_region | apply ops_nil | (apply ops_plain; (· exact rfl)) | (apply ops_on; (· exact rfl); (· exact rfl); (· (with_reducible first | assumption | rfl | decide))) | (apply ops_off0; (· exact rfl); (· exact rfl); (· (with_reducible first | assumption | rfl | decide))) | (apply ops_offn; (· exact rfl); (· exact rfl)) | (apply op_pick_t; (· exact rfl); (· exact rfl); (· (with_reducible first | assumption | rfl | decide)); (· exact rfl)) | (apply op_pick_f; (· exact rfl); (· exact rfl); (· (with_reducible first | assumption | rfl | decide)); (· exact rfl)) | (apply bx_load0; (· exact rfl); (· exact rfl); (· assumption); (· (repeat (first | with_reducible exact At.here | with_reducible apply At.there | with_reducible apply at_app))); (· (first | exact partInj _ _ _ _ | exact partEv _ _ _ _ _ | exact rfl))) | (apply bx_box; (· exact rfl); (· exact rfl); (· (first | (dsimp only [DV.cells, getD_zero, getD_succ, Sv.cells]; done) | (dsimp only [DV.cells, getD_zero, getD_succ, Sv.cells]; exact rfl) | exact rfl)); (· exact rfl); (· exact rfl); (· assumption); intro b1 H1 hB) | (apply op_at; (· exact rfl)) | (apply dwp_cond_f; (· exact rfl); (· (with_reducible first | assumption | rfl | decide))) | apply dwp_skip | apply dwp_ret | (refine ⟨_, rfl, ?_⟩) | fail)
              exact ⟨by simp only [offF, ite_true, Bool.false_eq_true, ite_false, h3, c0, c1, c2, c3, c4, Bool.true_or, Bool.false_or, Bool.true_and, Bool.false_and], hB.ab⟩
            | false =>
              cases c5 : decide (xu < xt) with
              | true =>
                refine enter rfl Tryd.func48 rfl Tryd.ntmps48 rfl ?_
                dsimp only [List.cons_append, List.nil_append, List.length_cons, List.length_nil, List.replicate_succ, List.replicate_zero, Nat.reduceAdd, Nat.reduceSub]
                repeat' (first | dsimp only [putD, DV.cells, DH.new_next, DH.set_next, List.length_cons, List.length_nil, Nat.reduceAdd, List.set_cons_zero, List.set_cons_succ, getD_zero, getD_succ, fieldAt_zero, fieldAt_succ, thenD, blockD, retR] | apply dwp_seq | apply dwp_region | apply ops_nil | (apply ops_plain; (· exact rfl)) | (apply ops_on; (· exact rfl); (· exact rfl); (· (with_reducible first | assumption | rfl | decide))) | (apply ops_off0; (· exact rfl); (· exact rfl); (· (with_reducible first | assumption | rfl | decide))) | (apply ops_offn; (· exact rfl); (· exact rfl)) | (apply op_pick_t; (· exact rfl); (· exact rfl); (· (with_reducible first | assumption | rfl | decide)); (· exact rfl)) | (apply op_pick_f; (· exact rfl); (· exact rfl); (· (with_reducible first | assumption | rfl | decide)); (· exact rfl)) | (apply bx_load0; (· exact rfl); (· exact rfl); (· assumption); (· (repeat (first | with_reducible exact At.here | with_reducible apply At.there | with_reducible apply at_app))); (· (first | exact partInj _ _ _ _ | exact partEv _ _ _ _ _ | exact rfl))) | (apply bx_box; (· exact rfl); (· exact rfl); (· (first | (dsimp only [DV.cells, getD_zero, getD_succ, Sv.cells]; done) | (dsimp only [DV.cells, getD_zero, getD_succ, Sv.cells]; exact rfl) | exact rfl)); (· exact rfl); (· exact rfl); (· assumption); intro b1 H1 hB) | (apply op_at; (· exact rfl)) | (apply dwp_cond_f; (· exact rfl); (· (with_reducible first | assumption | rfl | decide))) | apply dwp_skip | apply dwp_ret | (refine ⟨_, rfl, ?_⟩) | fail)
                exact ⟨by simp only [offF, ite_true, Bool.false_eq_true, ite_false, h3, c0, c1, c2, c3, c4, c5, Bool.true_or, Bool.false_or, Bool.true_and, Bool.false_and], hB.ab⟩
              | false =>
                cases c6 : (!([xt, xu].all fitB)) with
                | true =>
                  refine enter rfl Tryd.func48 rfl Tryd.ntmps48 rfl ?_
                  dsimp only [List.cons_append, List.nil_append, List.length_cons, List.length_nil, List.replicate_succ, List.replicate_zero, Nat.reduceAdd, Nat.reduceSub]
                  repeat' (first | dsimp only [putD, DV.cells, DH.new_next, DH.set_next, List.length_cons, List.length_nil, Nat.reduceAdd, List.set_cons_zero, List.set_cons_succ, getD_zero, getD_succ, fieldAt_zero, fieldAt_succ, thenD, blockD, retR] | apply dwp_seq | apply dwp_region | apply ops_nil | (apply ops_plain; (· exact rfl)) | (apply ops_on; (· exact rfl); (· exact rfl); (· (with_reducible first | assumption | rfl | decide))) | (apply ops_off0; (· exact rfl); (· exact rfl); (· (with_reducible first | assumption | rfl | decide))) | (apply ops_offn; (· exact rfl); (· exact rfl)) | (apply op_call; (· exact rfl); (· exact rfl); (· exact rfl); (refine (CallWp.up up13' (may69e (.two (Bx.get (by assumption) At.here)))).mono ?_; rintro r H' ⟨rfl, rfl⟩)) | (apply op_pick_t; (· exact rfl); (· exact rfl); (· (with_reducible first | assumption | rfl | decide)); (· exact rfl)) | (apply op_pick_f; (· exact rfl); (· exact rfl); (· (with_reducible first | assumption | rfl | decide)); (· exact rfl)) | (apply bx_buildL et112'; (· exact rfl); (· exact rfl); (· exact rfl); (· decide); (· assumption); intro bn H1 hB) | (apply bx_load0; (· exact rfl); (· exact rfl); (· assumption); (· (repeat (first | with_reducible exact At.here | with_reducible apply At.there | with_reducible apply at_app))); (· (first | exact partInj _ _ _ _ | exact partEv _ _ _ _ _ | exact rfl))) | (apply bx_box; (· exact rfl); (· exact rfl); (· (first | (dsimp only [DV.cells, getD_zero, getD_succ, Sv.cells]; done) | (dsimp only [DV.cells, getD_zero, getD_succ, Sv.cells]; exact rfl) | exact rfl)); (· exact rfl); (· exact rfl); (· assumption); intro b1 H1 hB) | (apply op_at; (· exact rfl)) | (apply dwp_cond_f; (· exact rfl); (· (with_reducible first | assumption | rfl | decide))) | apply dwp_skip | apply dwp_ret | (refine ⟨_, rfl, ?_⟩) | fail)
                  exact ⟨by simp only [offF, ite_true, Bool.false_eq_true, ite_false, h3, c0, c1, c2, c3, c4, c5, c6, Bool.true_or, Bool.false_or, Bool.true_and, Bool.false_and], hB.ab⟩
                | false =>
                  cases c7 : (instantF ⟨xt, xk, xw, xu⟩) with
                  | true =>
                    refine enter rfl Tryd.func48 rfl Tryd.ntmps48 rfl ?_
                    dsimp only [List.cons_append, List.nil_append, List.length_cons, List.length_nil, List.replicate_succ, List.replicate_zero, Nat.reduceAdd, Nat.reduceSub]
                    repeat' (first | dsimp only [putD, DV.cells, DH.new_next, DH.set_next, List.length_cons, List.length_nil, Nat.reduceAdd, List.set_cons_zero, List.set_cons_succ, getD_zero, getD_succ, fieldAt_zero, fieldAt_succ, thenD, blockD, retR] | apply dwp_seq | apply dwp_region | apply ops_nil | (apply ops_plain; (· exact rfl)) | (apply ops_on; (· exact rfl); (· exact rfl); (· (with_reducible first | assumption | rfl | decide))) | (apply op_call; (· exact rfl); (· exact rfl); (· exact rfl); (refine (CallWp.up up13' (may69e (.two (Bx.get (by assumption) At.here)))).mono ?_; rintro r H' ⟨rfl, rfl⟩)) | (apply op_call; (· exact rfl); (· exact rfl); (· exact rfl); (refine (instant77 ⟨xt, xk, xw, xu⟩ _).mono ?_; rintro r H' ⟨rfl, hab⟩; replace hB := hB.grow hab)) | (apply op_pick_t; (· exact rfl); (· exact rfl); (· (with_reducible first | assumption | rfl | decide)); (· exact rfl)) | (apply op_pick_f; (· exact rfl); (· exact rfl); (· (with_reducible first | assumption | rfl | decide)); (· exact rfl)) | (apply bx_buildL et112'; (· exact rfl); (· exact rfl); (· exact rfl); (· decide); (· assumption); intro bn H1 hB) | (apply bx_load0; (· exact rfl); (· exact rfl); (· assumption); (· (repeat (first | with_reducible exact At.here | with_reducible apply At.there | with_reducible apply at_app))); (· (first | exact partInj _ _ _ _ | exact partEv _ _ _ _ _ | exact rfl))) | (apply bx_box; (· exact rfl); (· exact rfl); (· (first | (dsimp only [DV.cells, getD_zero, getD_succ, Sv.cells]; done) | (dsimp only [DV.cells, getD_zero, getD_succ, Sv.cells]; exact rfl) | exact rfl)); (· exact rfl); (· exact rfl); (· assumption); intro b1 H1 hB) | (apply op_at; (· exact rfl)) | (apply dwp_cond_f; (· exact rfl); (· (with_reducible first | assumption | rfl | decide))) | apply dwp_skip | apply dwp_ret | (refine ⟨_, rfl, ?_⟩) | fail)
                    exact ⟨by simp only [offF, ite_true, Bool.false_eq_true, ite_false, h3, c0, c1, c2, c3, c4, c5, c6, c7, Bool.true_or, Bool.false_or, Bool.true_and, Bool.false_and], hB.ab⟩
                  | false =>
                    refine enter rfl Tryd.func48 rfl Tryd.ntmps48 rfl ?_
                    dsimp only [List.cons_append, List.nil_append, List.length_cons, List.length_nil, List.replicate_succ, List.replicate_zero, Nat.reduceAdd, Nat.reduceSub]
                    repeat' (first | dsimp only [putD, DV.cells, DH.new_next, DH.set_next, List.length_cons, List.length_nil, Nat.reduceAdd, List.set_cons_zero, List.set_cons_succ, getD_zero, getD_succ, fieldAt_zero, fieldAt_succ, thenD, blockD, retR] | apply dwp_seq | apply dwp_region | apply ops_nil | (apply ops_plain; (· exact rfl)) | (apply ops_on; (· exact rfl); (· exact rfl); (· (with_reducible first | assumption | rfl | decide))) | (apply ops_off1; (· exact rfl); (· exact rfl); (· (with_reducible first | assumption | rfl | decide))) | (apply op_call; (· exact rfl); (· exact rfl); (· exact rfl); (refine (CallWp.up up13' (may69e (.two (Bx.get (by assumption) At.here)))).mono ?_; rintro r H' ⟨rfl, rfl⟩)) | (apply op_call; (· exact rfl); (· exact rfl); (· exact rfl); (refine (instant77 ⟨xt, xk, xw, xu⟩ _).mono ?_; rintro r H' ⟨rfl, hab⟩; replace hB := hB.grow hab)) | (apply op_pick_f; (· exact rfl); (· exact rfl); (· (with_reducible first | assumption | rfl | decide)); (· exact rfl)) | (apply bx_buildL et112'; (· exact rfl); (· exact rfl); (· exact rfl); (· decide); (· assumption); intro bn H1 hB) | (apply bx_load0; (· exact rfl); (· exact rfl); (· assumption); (· (repeat (first | with_reducible exact At.here | with_reducible apply At.there | with_reducible apply at_app))); (· (first | exact partInj _ _ _ _ | exact partEv _ _ _ _ _ | exact rfl))) | (apply bx_box; (· exact rfl); (· exact rfl); (· (first | (dsimp only [DV.cells, getD_zero, getD_succ, Sv.cells]; done) | (dsimp only [DV.cells, getD_zero, getD_succ, Sv.cells]; exact rfl) | exact rfl)); (· exact rfl); (· exact rfl); (· assumption); intro b1 H1 hB) | (apply op_at; (· exact rfl)) | (apply dwp_cond_f; (· exact rfl); (· (with_reducible first | assumption | rfl | decide))) | apply dwp_skip | apply dwp_ret | (refine ⟨_, rfl, ?_⟩) | fail)
                    exact ⟨by simp only [offF, ite_true, Bool.false_eq_true, ite_false, h3, c0, c1, c2, c3, c4, c5, c6, c7, Bool.true_or, Bool.false_or, Bool.true_and, Bool.false_and], hB.ab⟩
/-! ### events -/
def offE (y : Ev) : Bool :=
  decide (y.t < 0) || (!([y.t].all fitB) || (decide (y.k < 1) || (decide (y.k > 14) || (decide (y.w < 0) || decide (y.w > 255)))))
theorem off52 (y : Ev) (H : DH) : CallWp Tryd.prog X3 52 [.agg y.row] H (fun r H' => r = .bool (offE y) ∧ Above H H') := by
  have hB : Bx H H [] [] := Bx.init (fun f hf => by cases hf)
  obtain ⟨yt, yk, yw, ya, yb⟩ := y
  cases c0 : decide (yt < 0) with
  | true =>
    refine enter rfl Tryd.func52 rfl Tryd.ntmps52 rfl ?_
    dsimp only [List.cons_append, List.nil_append, List.length_cons, List.length_nil, List.replicate_succ, List.replicate_zero, Nat.reduceAdd, Nat.reduceSub]
    repeat' (first | dsimp only [putD, DV.cells, DH.new_next, DH.set_next, List.length_cons, List.length_nil, Nat.reduceAdd, List.set_cons_zero, List.set_cons_succ, getD_zero, getD_succ, fieldAt_zero, fieldAt_succ, thenD, blockD, retR] | apply dwp_seq | apply dwp_region | apply ops_nil | (apply ops_plain; (· exact rfl)) | (apply ops_off0; (· exact rfl); (· exact rfl); (· (with_reducible first | assumption | rfl | decide))) | (apply op_pick_t; (· exact rfl); (· exact rfl); (· (with_reducible first | assumption | rfl | decide)); (· exact rfl)) | (apply bx_load0; (· exact rfl); (· exact rfl); (· assumption); (· (repeat (first | with_reducible exact At.here | with_reducible apply At.there | with_reducible apply at_app))); (· (first | exact partInj _ _ _ _ | exact partEv _ _ _ _ _ | exact rfl))) | (apply bx_box; (· exact rfl); (· exact rfl); (· (first | (dsimp only [DV.cells, getD_zero, getD_succ, Sv.cells]; done) | (dsimp only [DV.cells, getD_zero, getD_succ, Sv.cells]; exact rfl) | exact rfl)); (· exact rfl); (· exact rfl); (· assumption); intro b1 H1 hB) | (apply op_at; (· exact rfl)) | apply dwp_ret | (refine ⟨_, rfl, ?_⟩) | fail)
    exact ⟨by simp only [offE, c0, Bool.true_or, Bool.false_or], hB.ab⟩
  | false =>
    cases c1 : (!([yt].all fitB)) with
    | true =>
      refine enter rfl Tryd.func52 rfl Tryd.ntmps52 rfl ?_
      dsimp only [List.cons_append, List.nil_append, List.length_cons, List.length_nil, List.replicate_succ, List.replicate_zero, Nat.reduceAdd, Nat.reduceSub]
      repeat' (first | dsimp only [putD, DV.cells, DH.new_next, DH.set_next, List.length_cons, List.length_nil, Nat.reduceAdd, List.set_cons_zero, List.set_cons_succ, getD_zero, getD_succ, fieldAt_zero, fieldAt_succ, thenD, blockD, retR] | apply dwp_seq | apply dwp_region | apply ops_nil | (apply ops_plain; (· exact rfl)) | (apply ops_on; (· exact rfl); (· exact rfl); (· (with_reducible first | assumption | rfl | decide))) | (apply ops_off0; (· exact rfl); (· exact rfl); (· (with_reducible first | assumption | rfl | decide))) | (apply op_call; (· exact rfl); (· exact rfl); (· exact rfl); (refine (CallWp.up up13' (may69e (.one (Bx.get (by assumption) At.here)))).mono ?_; rintro r H' ⟨rfl, rfl⟩)) | (apply op_pick_t; (· exact rfl); (· exact rfl); (· (with_reducible first | assumption | rfl | decide)); (· exact rfl)) | (apply op_pick_f; (· exact rfl); (· exact rfl); (· (with_reducible first | assumption | rfl | decide)); (· exact rfl)) | (apply bx_buildL et112'; (· exact rfl); (· exact rfl); (· exact rfl); (· decide); (· assumption); intro bn H1 hB) | (apply bx_load0; (· exact rfl); (· exact rfl); (· assumption); (· (repeat (first | with_reducible exact At.here | with_reducible apply At.there | with_reducible apply at_app))); (· (first | exact partInj _ _ _ _ | exact partEv _ _ _ _ _ | exact rfl))) | (apply bx_box; (· exact rfl); (· exact rfl); (· (first | (dsimp only [DV.cells, getD_zero, getD_succ, Sv.cells]; done) | (dsimp only [DV.cells, getD_zero, getD_succ, Sv.cells]; exact rfl) | exact rfl)); (· exact rfl); (· exact rfl); (· assumption); intro b1 H1 hB) | (apply op_at; (· exact rfl)) | apply dwp_ret | (refine ⟨_, rfl, ?_⟩) | fail)
      exact ⟨by simp only [offE, c0, c1, Bool.true_or, Bool.false_or], hB.ab⟩
    | false =>
      cases c2 : decide (yk < 1) with
      | true =>
        refine enter rfl Tryd.func52 rfl Tryd.ntmps52 rfl ?_
        dsimp only [List.cons_append, List.nil_append, List.length_cons, List.length_nil, List.replicate_succ, List.replicate_zero, Nat.reduceAdd, Nat.reduceSub]
        repeat' (first | dsimp only [putD, DV.cells, DH.new_next, DH.set_next, List.length_cons, List.length_nil, Nat.reduceAdd, List.set_cons_zero, List.set_cons_succ, getD_zero, getD_succ, fieldAt_zero, fieldAt_succ, thenD, blockD, retR] | apply dwp_seq | apply dwp_region | apply ops_nil | (apply ops_plain; (· exact rfl)) | (apply ops_on; (· exact rfl); (· exact rfl); (· (with_reducible first | assumption | rfl | decide))) | (apply ops_off0; (· exact rfl); (· exact rfl); (· (with_reducible first | assumption | rfl | decide))) | (apply op_call; (· exact rfl); (· exact rfl); (· exact rfl); (refine (CallWp.up up13' (may69e (.one (Bx.get (by assumption) At.here)))).mono ?_; rintro r H' ⟨rfl, rfl⟩)) | (apply op_pick_t; (· exact rfl); (· exact rfl); (· (with_reducible first | assumption | rfl | decide)); (· exact rfl)) | (apply op_pick_f; (· exact rfl); (· exact rfl); (· (with_reducible first | assumption | rfl | decide)); (· exact rfl)) | (apply bx_buildL et112'; (· exact rfl); (· exact rfl); (· exact rfl); (· decide); (· assumption); intro bn H1 hB) | (apply bx_load0; (· exact rfl); (· exact rfl); (· assumption); (· (repeat (first | with_reducible exact At.here | with_reducible apply At.there | with_reducible apply at_app))); (· (first | exact partInj _ _ _ _ | exact partEv _ _ _ _ _ | exact rfl))) | (apply bx_box; (· exact rfl); (· exact rfl); (· (first | (dsimp only [DV.cells, getD_zero, getD_succ, Sv.cells]; done) | (dsimp only [DV.cells, getD_zero, getD_succ, Sv.cells]; exact rfl) | exact rfl)); (· exact rfl); (· exact rfl); (· assumption); intro b1 H1 hB) | (apply op_at; (· exact rfl)) | apply dwp_ret | (refine ⟨_, rfl, ?_⟩) | fail)
        exact ⟨by simp only [offE, c0, c1, c2, Bool.true_or, Bool.false_or], hB.ab⟩
      | false =>
        cases c3 : decide (yk > 14) with
        | true =>
          refine enter rfl Tryd.func52 rfl Tryd.ntmps52 rfl ?_
          dsimp only [List.cons_append, List.nil_append, List.length_cons, List.length_nil, List.replicate_succ, List.replicate_zero, Nat.reduceAdd, Nat.reduceSub]
          repeat' (first | dsimp only [putD, DV.cells, DH.new_next, DH.set_next, List.length_cons, List.length_nil, Nat.reduceAdd, List.set_cons_zero, List.set_cons_succ, getD_zero, getD_succ, fieldAt_zero, fieldAt_succ, thenD, blockD, retR] | apply dwp_seq | apply dwp_region | apply ops_nil | (apply ops_plain; (· exact rfl)) | (apply ops_on; (· exact rfl); (· exact rfl); (· (with_reducible first | assumption | rfl | decide))) | (apply ops_off0; (· exact rfl); (· exact rfl); (· (with_reducible first | assumption | rfl | decide))) | (apply op_call; (· exact rfl); (· exact rfl); (· exact rfl); (refine (CallWp.up up13' (may69e (.one (Bx.get (by assumption) At.here)))).mono ?_; rintro r H' ⟨rfl, rfl⟩)) | (apply op_pick_t; (· exact rfl); (· exact rfl); (· (with_reducible first | assumption | rfl | decide)); (· exact rfl)) | (apply op_pick_f; (· exact rfl); (· exact rfl); (· (with_reducible first | assumption | rfl | decide)); (· exact rfl)) | (apply bx_buildL et112'; (· exact rfl); (· exact rfl); (· exact rfl); (· decide); (· assumption); intro bn H1 hB) | (apply bx_load0; (· exact rfl); (· exact rfl); (· assumption); (· (repeat (first | with_reducible exact At.here | with_reducible apply At.there | with_reducible apply at_app))); (· (first | exact partInj _ _ _ _ | exact partEv _ _ _ _ _ | exact rfl))) | (apply bx_box; (· exact rfl); (· exact rfl); (· (first | (dsimp only [DV.cells, getD_zero, getD_succ, Sv.cells]; done) | (dsimp only [DV.cells, getD_zero, getD_succ, Sv.cells]; exact rfl) | exact rfl)); (· exact rfl); (· exact rfl); (· assumption); intro b1 H1 hB) | (apply op_at; (· exact rfl)) | apply dwp_ret | (refine ⟨_, rfl, ?_⟩) | fail)
          exact ⟨by simp only [offE, c0, c1, c2, c3, Bool.true_or, Bool.false_or], hB.ab⟩
        | false =>
          cases c4 : decide (yw < 0) with
          | true =>
            refine enter rfl Tryd.func52 rfl Tryd.ntmps52 rfl ?_
            dsimp only [List.cons_append, List.nil_append, List.length_cons, List.length_nil, List.replicate_succ, List.replicate_zero, Nat.reduceAdd, Nat.reduceSub]
            repeat' (first | dsimp only [putD, DV.cells, DH.new_next, DH.set_next, List.length_cons, List.length_nil, Nat.reduceAdd, List.set_cons_zero, List.set_cons_succ, getD_zero, getD_succ, fieldAt_zero, fieldAt_succ, thenD, blockD, retR] | apply dwp_seq | apply dwp_region | apply ops_nil | (apply ops_plain; (· exact rfl)) | (apply ops_on; (· exact rfl); (· exact rfl); (· (with_reducible first | assumption | rfl | decide))) | (apply ops_off0; (· exact rfl); (· exact rfl); (· (with_reducible first | assumption | rfl | decide))) | (apply op_call; (· exact rfl); (· exact rfl); (· exact rfl); (refine (CallWp.up up13' (may69e (.one (Bx.get (by assumption) At.here)))).mono ?_; rintro r H' ⟨rfl, rfl⟩)) | (apply op_pick_t; (· exact rfl); (· exact rfl); (· (with_reducible first | assumption | rfl | decide)); (· exact rfl)) | (apply op_pick_f; (· exact rfl); (· exact rfl); (· (with_reducible first | assumption | rfl | decide)); (· exact rfl)) | (apply bx_buildL et112'; (· exact rfl); (· exact rfl); (· exact rfl); (· decide); (· assumption); intro bn H1 hB) | (apply bx_load0; (· exact rfl); (· exact rfl); (· assumption); (· (repeat (first | with_reducible exact At.here | with_reducible apply At.there | with_reducible apply at_app))); (· (first | exact partInj _ _ _ _ | exact partEv _ _ _ _ _ | exact rfl))) | (apply bx_box; (· exact rfl); (· exact rfl); (· (first | (dsimp only [DV.cells, getD_zero, getD_succ, Sv.cells]; done) | (dsimp only [DV.cells, getD_zero, getD_succ, Sv.cells]; exact rfl) | exact rfl)); (· exact rfl); (· exact rfl); (· assumption); intro b1 H1 hB) | (apply op_at; (· exact rfl)) | apply dwp_ret | (refine ⟨_, rfl, ?_⟩) | fail)
            exact ⟨by simp only [offE, c0, c1, c2, c3, c4, Bool.true_or, Bool.false_or], hB.ab⟩
          | false =>
            refine enter rfl Tryd.func52 rfl Tryd.ntmps52 rfl ?_
            dsimp only [List.cons_append, List.nil_append, List.length_cons, List.length_nil, List.replicate_succ, List.replicate_zero, Nat.reduceAdd, Nat.reduceSub]
            repeat' (first | dsimp only [putD, DV.cells, DH.new_next, DH.set_next, List.length_cons, List.length_nil, Nat.reduceAdd, List.set_cons_zero, List.set_cons_succ, getD_zero, getD_succ, fieldAt_zero, fieldAt_succ, thenD, blockD, retR] | apply dwp_seq | apply dwp_region | apply ops_nil | (apply ops_plain; (· exact rfl)) | (apply ops_on; (· exact rfl); (· exact rfl); (· (with_reducible first | assumption | rfl | decide))) | (apply op_call; (· exact rfl); (· exact rfl); (· exact rfl); (refine (CallWp.up up13' (may69e (.one (Bx.get (by assumption) At.here)))).mono ?_; rintro r H' ⟨rfl, rfl⟩)) | (apply op_pick_f; (· exact rfl); (· exact rfl); (· (with_reducible first | assumption | rfl | decide)); (· exact rfl)) | (apply bx_buildL et112'; (· exact rfl); (· exact rfl); (· exact rfl); (· decide); (· assumption); intro bn H1 hB) | (apply bx_load0; (· exact rfl); (· exact rfl); (· assumption); (· (repeat (first | with_reducible exact At.here | with_reducible apply At.there | with_reducible apply at_app))); (· (first | exact partInj _ _ _ _ | exact partEv _ _ _ _ _ | exact rfl))) | (apply bx_box; (· exact rfl); (· exact rfl); (· (first | (dsimp only [DV.cells, getD_zero, getD_succ, Sv.cells]; done) | (dsimp only [DV.cells, getD_zero, getD_succ, Sv.cells]; exact rfl) | exact rfl)); (· exact rfl); (· exact rfl); (· assumption); intro b1 H1 hB) | (apply op_at; (· exact rfl)) | apply dwp_ret | (refine ⟨_, rfl, ?_⟩) | fail)
            exact ⟨by simp only [offE, c0, c1, c2, c3, c4, Bool.true_or, Bool.false_or], hB.ab⟩
/-! ### comparing -/
def cmpF (a b : Int) : Int := if a < b then -1 else if b < a then 1 else 0
theorem nan91 (a : Int) (H : DH) : CallWp Tryd.prog X3 91 [.int .i64 a] H (fun r H' => r = .bool false ∧ H' = H) := by
  have he : (a != a) = false := by simp
  refine enter rfl Tryd.func91 rfl Tryd.ntmps91 rfl ?_
  dsimp only [List.cons_append, List.nil_append, List.length_cons, List.length_nil, List.replicate_succ, List.replicate_zero, Nat.reduceAdd, Nat.reduceSub]
  repeat' (first | dsimp only [putD, DV.cells, DH.new_next, DH.set_next, List.length_cons, List.length_nil, Nat.reduceAdd, List.set_cons_zero, List.set_cons_succ, getD_zero, getD_succ, fieldAt_zero, fieldAt_succ, thenD, blockD, retR] | apply dwp_seq | apply dwp_region | apply ops_nil | (apply ops_plain; (· exact rfl)) | (apply op_at; (· exact rfl)) | apply dwp_ret | (refine ⟨_, rfl, ?_⟩) | fail)
  exact ⟨by first | rw [he] | (simp; done), rfl⟩
theorem cmp79 (a b : Int) (H : DH) : CallWp Tryd.prog X3 79 [.int .i64 a, .int .i64 b] H (fun r H' => r = .int .i64 (cmpF a b) ∧ H' = H) := by
  unfold cmpF
  cases h1 : decide (a < b) with
  | true =>
    rw [if_pos (by simpa using h1)]
    refine enter rfl Tryd.func79 rfl Tryd.ntmps79 rfl ?_
    dsimp only [List.cons_append, List.nil_append, List.length_cons, List.length_nil, List.replicate_succ, List.replicate_zero, Nat.reduceAdd, Nat.reduceSub]
    repeat' (first | dsimp only [putD, DV.cells, DH.new_next, DH.set_next, List.length_cons, List.length_nil, Nat.reduceAdd, List.set_cons_zero, List.set_cons_succ, getD_zero, getD_succ, fieldAt_zero, fieldAt_succ, thenD, blockD, retR] | apply dwp_seq | apply dwp_region | apply ops_nil | (apply ops_plain; (· exact rfl)) | (apply op_call; (· exact rfl); (· exact rfl); (· exact rfl); (refine (nan91 _ _).mono ?_; rintro r H' ⟨rfl, rfl⟩)) | (apply op_at; (· exact rfl)) | (apply dwp_cond_t; (· exact rfl); (· (with_reducible first | assumption | rfl | decide))) | (apply dwp_cond_f; (· exact rfl); (· (with_reducible first | assumption | rfl | decide))) | apply dwp_skip | apply dwp_ret | (refine ⟨_, rfl, ?_⟩) | fail)
    exact ⟨rfl, rfl⟩
  | false =>
    rw [if_neg (by simpa using h1)]
    cases h2 : decide (a > b) with
    | true =>
      rw [if_pos (by simpa using h2)]
      refine enter rfl Tryd.func79 rfl Tryd.ntmps79 rfl ?_
      dsimp only [List.cons_append, List.nil_append, List.length_cons, List.length_nil, List.replicate_succ, List.replicate_zero, Nat.reduceAdd, Nat.reduceSub]
      repeat' (first | dsimp only [putD, DV.cells, DH.new_next, DH.set_next, List.length_cons, List.length_nil, Nat.reduceAdd, List.set_cons_zero, List.set_cons_succ, getD_zero, getD_succ, fieldAt_zero, fieldAt_succ, thenD, blockD, retR] | apply dwp_seq | apply dwp_region | apply ops_nil | (apply ops_plain; (· exact rfl)) | (apply op_call; (· exact rfl); (· exact rfl); (· exact rfl); (refine (nan91 _ _).mono ?_; rintro r H' ⟨rfl, rfl⟩)) | (apply op_at; (· exact rfl)) | (apply dwp_cond_t; (· exact rfl); (· (with_reducible first | assumption | rfl | decide))) | (apply dwp_cond_f; (· exact rfl); (· (with_reducible first | assumption | rfl | decide))) | apply dwp_skip | apply dwp_ret | (refine ⟨_, rfl, ?_⟩) | fail)
      exact ⟨rfl, rfl⟩
    | false =>
      rw [if_neg (by simpa using h2)]
      refine enter rfl Tryd.func79 rfl Tryd.ntmps79 rfl ?_
      dsimp only [List.cons_append, List.nil_append, List.length_cons, List.length_nil, List.replicate_succ, List.replicate_zero, Nat.reduceAdd, Nat.reduceSub]
      repeat' (first | dsimp only [putD, DV.cells, DH.new_next, DH.set_next, List.length_cons, List.length_nil, Nat.reduceAdd, List.set_cons_zero, List.set_cons_succ, getD_zero, getD_succ, fieldAt_zero, fieldAt_succ, thenD, blockD, retR] | apply dwp_seq | apply dwp_region | apply ops_nil | (apply ops_plain; (· exact rfl)) | (apply op_call; (· exact rfl); (· exact rfl); (· exact rfl); (refine (nan91 _ _).mono ?_; rintro r H' ⟨rfl, rfl⟩)) | (apply op_at; (· exact rfl)) | (apply dwp_cond_f; (· exact rfl); (· (with_reducible first | assumption | rfl | decide))) | apply dwp_skip | apply dwp_ret | (refine ⟨_, rfl, ?_⟩) | fail)
      exact ⟨rfl, rfl⟩
theorem nan92 (a : Int) (H : DH) : CallWp Tryd.prog X3 92 [.int .i64 a] H (fun r H' => r = .bool false ∧ H' = H) := by
  have he : (a != a) = false := by simp
  refine enter rfl Tryd.func92 rfl Tryd.ntmps92 rfl ?_
  dsimp only [List.cons_append, List.nil_append, List.length_cons, List.length_nil, List.replicate_succ, List.replicate_zero, Nat.reduceAdd, Nat.reduceSub]
  repeat' (first | dsimp only [putD, DV.cells, DH.new_next, DH.set_next, List.length_cons, List.length_nil, Nat.reduceAdd, List.set_cons_zero, List.set_cons_succ, getD_zero, getD_succ, fieldAt_zero, fieldAt_succ, thenD, blockD, retR] | apply dwp_seq | apply dwp_region | apply ops_nil | (apply ops_plain; (· exact rfl)) | (apply op_at; (· exact rfl)) | apply dwp_ret | (refine ⟨_, rfl, ?_⟩) | fail)
  exact ⟨by first | rw [he] | (simp; done), rfl⟩
theorem cmp80 (a b : Int) (H : DH) : CallWp Tryd.prog X3 80 [.int .i64 a, .int .i64 b] H (fun r H' => r = .int .i64 (cmpF a b) ∧ H' = H) := by
  unfold cmpF
  cases h1 : decide (a < b) with
  | true =>
    rw [if_pos (by simpa using h1)]
    refine enter rfl Tryd.func80 rfl Tryd.ntmps80 rfl ?_
    dsimp only [List.cons_append, List.nil_append, List.length_cons, List.length_nil, List.replicate_succ, List.replicate_zero, Nat.reduceAdd, Nat.reduceSub]
    repeat' (first | dsimp only [putD, DV.cells, DH.new_next, DH.set_next, List.length_cons, List.length_nil, Nat.reduceAdd, List.set_cons_zero, List.set_cons_succ, getD_zero, getD_succ, fieldAt_zero, fieldAt_succ, thenD, blockD, retR] | apply dwp_seq | apply dwp_region | apply ops_nil | (apply ops_plain; (· exact rfl)) | (apply op_call; (· exact rfl); (· exact rfl); (· exact rfl); (refine (nan92 _ _).mono ?_; rintro r H' ⟨rfl, rfl⟩)) | (apply op_at; (· exact rfl)) | (apply dwp_cond_t; (· exact rfl); (· (with_reducible first | assumption | rfl | decide))) | (apply dwp_cond_f; (· exact rfl); (· (with_reducible first | assumption | rfl | decide))) | apply dwp_skip | apply dwp_ret | (refine ⟨_, rfl, ?_⟩) | fail)
    exact ⟨rfl, rfl⟩
  | false =>
    rw [if_neg (by simpa using h1)]
    cases h2 : decide (a > b) with
    | true =>
      rw [if_pos (by simpa using h2)]
      refine enter rfl Tryd.func80 rfl Tryd.ntmps80 rfl ?_
      dsimp only [List.cons_append, List.nil_append, List.length_cons, List.length_nil, List.replicate_succ, List.replicate_zero, Nat.reduceAdd, Nat.reduceSub]
      repeat' (first | dsimp only [putD, DV.cells, DH.new_next, DH.set_next, List.length_cons, List.length_nil, Nat.reduceAdd, List.set_cons_zero, List.set_cons_succ, getD_zero, getD_succ, fieldAt_zero, fieldAt_succ, thenD, blockD, retR] | apply dwp_seq | apply dwp_region | apply ops_nil | (apply ops_plain; (· exact rfl)) | (apply op_call; (· exact rfl); (· exact rfl); (· exact rfl); (refine (nan92 _ _).mono ?_; rintro r H' ⟨rfl, rfl⟩)) | (apply op_at; (· exact rfl)) | (apply dwp_cond_t; (· exact rfl); (· (with_reducible first | assumption | rfl | decide))) | (apply dwp_cond_f; (· exact rfl); (· (with_reducible first | assumption | rfl | decide))) | apply dwp_skip | apply dwp_ret | (refine ⟨_, rfl, ?_⟩) | fail)
      exact ⟨rfl, rfl⟩
    | false =>
      rw [if_neg (by simpa using h2)]
      refine enter rfl Tryd.func80 rfl Tryd.ntmps80 rfl ?_
      dsimp only [List.cons_append, List.nil_append, List.length_cons, List.length_nil, List.replicate_succ, List.replicate_zero, Nat.reduceAdd, Nat.reduceSub]
      repeat' (first | dsimp only [putD, DV.cells, DH.new_next, DH.set_next, List.length_cons, List.length_nil, Nat.reduceAdd, List.set_cons_zero, List.set_cons_succ, getD_zero, getD_succ, fieldAt_zero, fieldAt_succ, thenD, blockD, retR] | apply dwp_seq | apply dwp_region | apply ops_nil | (apply ops_plain; (· exact rfl)) | (apply op_call; (· exact rfl); (· exact rfl); (· exact rfl); (refine (nan92 _ _).mono ?_; rintro r H' ⟨rfl, rfl⟩)) | (apply op_at; (· exact rfl)) | (apply dwp_cond_f; (· exact rfl); (· (with_reducible first | assumption | rfl | decide))) | apply dwp_skip | apply dwp_ret | (refine ⟨_, rfl, ?_⟩) | fail)
      exact ⟨rfl, rfl⟩
def or4 (a b c d : Int) : Int := if a = 0 then (if b = 0 then (if c = 0 then d else c) else b) else a
theorem or78 {a b c d : Int} {H : DH} {n : Nat} (h : H.obj n = some (.rows false 1 [[.int .i64 a], [.int .i64 b], [.int .i64 c], [.int .i64 d]])) : CallWp Tryd.prog X3 78 [.sl (some (n, 0, 1)) 4 4 true] H (fun r H' => r = .int .i64 (or4 a b c d) ∧ H' = H) := by
  unfold or4
  cases h0 : (a == 0) with
  | false =>
    have g0 : (!(a == 0)) = true := by rw [h0]; rfl
    have f0 : (a != 0) = true := g0
    rw [if_neg (by simpa using h0)]
    refine enter rfl Tryd.func78 rfl Tryd.ntmps78 rfl ?_
    dsimp only [List.cons_append, List.nil_append, List.length_cons, List.length_nil, List.replicate_succ, List.replicate_zero, Nat.reduceAdd, Nat.reduceSub]
    repeat' (first | dsimp only [putD, DV.cells, DH.new_next, DH.set_next, List.length_cons, List.length_nil, Nat.reduceAdd, List.set_cons_zero, List.set_cons_succ, getD_zero, getD_succ, fieldAt_zero, fieldAt_succ, thenD, blockD, retR] | refine dwp_round ?_ | apply dwp_seq | apply dwp_region | apply ops_nil | (apply ops_plain; (· exact rfl)) | (apply op_load_at; (· exact rfl); (· exact rfl); (· exact h); (· exact rfl); (· exact rfl)) | (apply op_at; (· exact rfl)) | (apply dwp_cond_t; (· exact rfl); (· (with_reducible first | assumption | rfl | decide))) | apply dwp_block | apply dwp_skip | apply dwp_ret | (refine ⟨_, rfl, ?_⟩) | fail)
    exact ⟨rfl, rfl⟩
  | true =>
    have g0 : (!(a == 0)) = false := by rw [h0]; rfl
    have f0 : (a != 0) = false := g0
    rw [if_pos (by simpa using h0)]
    cases h1 : (b == 0) with
    | false =>
      have g1 : (!(b == 0)) = true := by rw [h1]; rfl
      have f1 : (b != 0) = true := g1
      rw [if_neg (by simpa using h1)]
      refine enter rfl Tryd.func78 rfl Tryd.ntmps78 rfl ?_
      dsimp only [List.cons_append, List.nil_append, List.length_cons, List.length_nil, List.replicate_succ, List.replicate_zero, Nat.reduceAdd, Nat.reduceSub]
      repeat' (first | dsimp only [putD, DV.cells, DH.new_next, DH.set_next, List.length_cons, List.length_nil, Nat.reduceAdd, List.set_cons_zero, List.set_cons_succ, getD_zero, getD_succ, fieldAt_zero, fieldAt_succ, thenD, blockD, retR] | refine dwp_round ?_ | apply dwp_seq | apply dwp_region | apply ops_nil | (apply ops_plain; (· exact rfl)) | (apply op_load_at; (· exact rfl); (· exact rfl); (· exact h); (· exact rfl); (· exact rfl)) | (apply op_at; (· exact rfl)) | (apply dwp_cond_t; (· exact rfl); (· (with_reducible first | assumption | rfl | decide))) | (apply dwp_cond_f; (· exact rfl); (· (with_reducible first | assumption | rfl | decide))) | apply dwp_block | apply dwp_skip | apply dwp_ret | (refine ⟨_, rfl, ?_⟩) | fail)
      exact ⟨rfl, rfl⟩
    | true =>
      have g1 : (!(b == 0)) = false := by rw [h1]; rfl
      have f1 : (b != 0) = false := g1
      rw [if_pos (by simpa using h1)]
      cases h2 : (c == 0) with
      | false =>
        have g2 : (!(c == 0)) = true := by rw [h2]; rfl
        have f2 : (c != 0) = true := g2
        rw [if_neg (by simpa using h2)]
        refine enter rfl Tryd.func78 rfl Tryd.ntmps78 rfl ?_
        dsimp only [List.cons_append, List.nil_append, List.length_cons, List.length_nil, List.replicate_succ, List.replicate_zero, Nat.reduceAdd, Nat.reduceSub]
        repeat' (first | dsimp only [putD, DV.cells, DH.new_next, DH.set_next, List.length_cons, List.length_nil, Nat.reduceAdd, List.set_cons_zero, List.set_cons_succ, getD_zero, getD_succ, fieldAt_zero, fieldAt_succ, thenD, blockD, retR] | refine dwp_round ?_ | apply dwp_seq | apply dwp_region | apply ops_nil | (apply ops_plain; (· exact rfl)) | (apply op_load_at; (· exact rfl); (· exact rfl); (· exact h); (· exact rfl); (· exact rfl)) | (apply op_at; (· exact rfl)) | (apply dwp_cond_t; (· exact rfl); (· (with_reducible first | assumption | rfl | decide))) | (apply dwp_cond_f; (· exact rfl); (· (with_reducible first | assumption | rfl | decide))) | apply dwp_block | apply dwp_skip | apply dwp_ret | (refine ⟨_, rfl, ?_⟩) | fail)
        exact ⟨rfl, rfl⟩
      | true =>
        have g2 : (!(c == 0)) = false := by rw [h2]; rfl
        have f2 : (c != 0) = false := g2
        rw [if_pos (by simpa using h2)]
        cases h3 : (d == 0) with
        | false =>
          have g3 : (!(d == 0)) = true := by rw [h3]; rfl
          have f3 : (d != 0) = true := g3
          refine enter rfl Tryd.func78 rfl Tryd.ntmps78 rfl ?_
          dsimp only [List.cons_append, List.nil_append, List.length_cons, List.length_nil, List.replicate_succ, List.replicate_zero, Nat.reduceAdd, Nat.reduceSub]
          repeat' (first | dsimp only [putD, DV.cells, DH.new_next, DH.set_next, List.length_cons, List.length_nil, Nat.reduceAdd, List.set_cons_zero, List.set_cons_succ, getD_zero, getD_succ, fieldAt_zero, fieldAt_succ, thenD, blockD, retR] | refine dwp_round ?_ | apply dwp_seq | apply dwp_region | apply ops_nil | (apply ops_plain; (· exact rfl)) | (apply op_load_at; (· exact rfl); (· exact rfl); (· exact h); (· exact rfl); (· exact rfl)) | (apply op_at; (· exact rfl)) | (apply dwp_cond_t; (· exact rfl); (· (with_reducible first | assumption | rfl | decide))) | (apply dwp_cond_f; (· exact rfl); (· (with_reducible first | assumption | rfl | decide))) | apply dwp_block | apply dwp_skip | apply dwp_ret | (refine ⟨_, rfl, ?_⟩) | fail)
          exact ⟨rfl, rfl⟩
        | true =>
          have g3 : (!(d == 0)) = false := by rw [h3]; rfl
          have f3 : (d != 0) = false := g3
          have e : d = 0 := by simpa using h3
          subst e
          refine enter rfl Tryd.func78 rfl Tryd.ntmps78 rfl ?_
          dsimp only [List.cons_append, List.nil_append, List.length_cons, List.length_nil, List.replicate_succ, List.replicate_zero, Nat.reduceAdd, Nat.reduceSub]
          repeat' (first | dsimp only [putD, DV.cells, DH.new_next, DH.set_next, List.length_cons, List.length_nil, Nat.reduceAdd, List.set_cons_zero, List.set_cons_succ, getD_zero, getD_succ, fieldAt_zero, fieldAt_succ, thenD, blockD, retR] | refine dwp_round ?_ | apply dwp_seq | apply dwp_region | apply ops_nil | (apply ops_plain; (· exact rfl)) | (apply op_load_at; (· exact rfl); (· exact rfl); (· exact h); (· exact rfl); (· exact rfl)) | (apply op_at; (· exact rfl)) | (apply dwp_cond_t; (· exact rfl); (· (with_reducible first | assumption | rfl | decide))) | (apply dwp_cond_f; (· exact rfl); (· (with_reducible first | assumption | rfl | decide))) | apply dwp_block | apply dwp_skip | apply dwp_ret | apply dwp_exit | (refine ⟨_, rfl, ?_⟩) | fail)
          exact ⟨rfl, rfl⟩
def compareF (x y : Inj) : Int := or4 (cmpF x.t y.t) (cmpF x.k y.k) (cmpF x.w y.w) (cmpF x.u y.u)
theorem compare50 (x y : Inj) (H : DH) : CallWp Tryd.prog X3 50 [.agg x.row, .agg y.row] H (fun r H' => r = .int .i64 (compareF x y) ∧ Above H H') := by
  have hB : Bx H H [] [] := Bx.init (fun f hf => by cases hf)
  obtain ⟨xt, xk, xw, xu⟩ := x
  obtain ⟨yt, yk, yw, yu⟩ := y
  refine enter rfl Tryd.func50 rfl Tryd.ntmps50 rfl ?_
  dsimp only [List.cons_append, List.nil_append, List.length_cons, List.length_nil, List.replicate_succ, List.replicate_zero, Nat.reduceAdd, Nat.reduceSub]
  repeat' (first | dsimp only [putD, DV.cells, DH.new_next, DH.set_next, List.length_cons, List.length_nil, Nat.reduceAdd, List.set_cons_zero, List.set_cons_succ, getD_zero, getD_succ, fieldAt_zero, fieldAt_succ, thenD, blockD, retR] | (apply dwp_drawt_bx; (· assumption); (· exact rfl)) | apply drawt_nil | (apply drawt_read; (· (first | exact wanted_plain rfl | (apply wanted_on; (· exact rfl); (· exact rfl); (· (with_reducible first | assumption | rfl | decide))))); (· exact rfl); (· exact rfl); (· intro H' h; have h : Bx _ H' _ _ := h; exact opD_load rfl rfl (h.get (by (repeat (first | with_reducible exact At.here | with_reducible apply At.there)))) rfl (by (first | exact partInj _ _ _ _ | exact partEv _ _ _ _ _ | exact rfl))); (· intro H' h; have h : Bx _ H' _ _ := h; exact opD_load rfl rfl (h.get (by (repeat (first | with_reducible exact At.here | with_reducible apply At.there)))) rfl (by (first | exact partInj _ _ _ _ | exact partEv _ _ _ _ _ | exact rfl)))) | (apply drawt_pure; (· (first | exact wanted_plain rfl | (apply wanted_on; (· exact rfl); (· exact rfl); (· (with_reducible first | assumption | rfl | decide))))); (· exact rfl); (· exact rfl); (· exact rfl)) | (apply drawt_move; (· (first | exact wanted_plain rfl | (apply wanted_on; (· exact rfl); (· exact rfl); (· (with_reducible first | assumption | rfl | decide))))); (· exact rfl); (· exact id)) | apply dwp_seq | apply dwp_region | apply ops_nil | (apply ops_plain; (· exact rfl)) | (apply op_call; (· exact rfl); (· exact rfl); (· exact rfl); (refine (cmp79 _ _ _).mono ?_; rintro r H' ⟨rfl, rfl⟩; refine ⟨(hB.sub (by (repeat (first | exact List.Sublist.refl _ | exact List.nil_sublist _ | apply List.Sublist.cons_cons | apply List.Sublist.cons | apply List.Sublist.append_left | refine List.Sublist.trans ?_ (List.sublist_append_right _ _))))), ?_⟩)) | (apply op_call; (· exact rfl); (· exact rfl); (· exact rfl); (refine (cmp80 _ _ _).mono ?_; rintro r H' ⟨rfl, rfl⟩; refine ⟨(hB.sub (by (repeat (first | exact List.Sublist.refl _ | exact List.nil_sublist _ | apply List.Sublist.cons_cons | apply List.Sublist.cons | apply List.Sublist.append_left | refine List.Sublist.trans ?_ (List.sublist_append_right _ _))))), ?_⟩)) | (apply op_call; (· exact rfl); (· exact rfl); (· exact rfl); (refine (or78 (Bx.get (by assumption) At.here)).mono ?_; rintro r H' ⟨rfl, rfl⟩; refine ⟨(hB.sub (by (repeat (first | exact List.Sublist.refl _ | exact List.nil_sublist _ | apply List.Sublist.cons_cons | apply List.Sublist.cons | apply List.Sublist.append_left | refine List.Sublist.trans ?_ (List.sublist_append_right _ _))))), ?_⟩)) | (apply bx_buildL et66; (· exact rfl); (· exact rfl); (· exact rfl); (· decide); (· assumption); intro bn H1 hB; refine ⟨(hB.sub (by (repeat (first | exact List.Sublist.refl _ | exact List.nil_sublist _ | apply List.Sublist.cons_cons | apply List.Sublist.cons | apply List.Sublist.append_left | refine List.Sublist.trans ?_ (List.sublist_append_right _ _))))), ?_⟩) | (apply bx_box; (· exact rfl); (· exact rfl); (· (first | (dsimp only [DV.cells, getD_zero, getD_succ, Sv.cells]; done) | (dsimp only [DV.cells, getD_zero, getD_succ, Sv.cells]; exact rfl) | exact rfl)); (· exact rfl); (· exact rfl); (· assumption); intro b1 H1 hB) | (apply op_at; (· exact rfl)) | apply dwp_ret | (refine ⟨_, rfl, ?_⟩) | fail)
  exact ⟨rfl, hB.ab⟩
end Go.Det.C

/- Is there one that is off; are they in order; a table's Check. -/
namespace Go.Det.C
open Go Go.Det Go.Proofs
set_option maxRecDepth 4000
set_option maxHeartbeats 4000000
set_option linter.unusedVariables false
set_option linter.unusedSimpArgs false
theorem sl_all {H : DH} {z : Nat} {R : List (List DV)} {p : Option (Nat × Nat × Nat)} (h : Sl H z R p) (hne : R ≠ []) : ∃ loc i ro rs, p = some (loc, i, z) ∧ loc < H.next ∧ H.obj loc = some (.rows ro z rs) ∧ ∀ k r, R[k]? = some r → rs[i + k]? = some r := by
  obtain ⟨r0, R', rfl⟩ : ∃ r0 R', R = r0 :: R' := by cases R with | nil => exact absurd rfl hne | cons a b => exact ⟨a, b, rfl⟩
  obtain ⟨loc, i, ro, rs, rfl, hl, ho, _⟩ := h.rd (k := 0) (r := r0) rfl
  refine ⟨loc, i, ro, rs, rfl, hl, ho, fun k r hk => ?_⟩
  obtain ⟨loc', i', ro', rs', e, _, ho', hr⟩ := h.rd hk
  cases e
  rw [ho] at ho'
  cases ho'
  exact hr
theorem partInjR (x : Inj) : partD Tryd.prog 30 x.row 0 = some (.agg x.row) := rfl
theorem partEvR (x : Ev) : partD Tryd.prog 34 x.row 0 = some (.agg x.row) := rfl
/-- A drawn region behind a heap. -/
theorem dwp_drawt_ab {P : Program} {X : Ext} {id : Nat} {ops : Array Oper} {env : List DV} {H : DH} {Q : DExit → DSt → Prop} {bef : Array Nat} (hbef : Region.before ops = bef)
    (h : DrawT P X ops bef [] (fun H' => Above H H') (fun H' => Above H H') 0 ops.toList ⟨env, H⟩ (fun st' => Q .normal st')) : Dwp P X (.region id ops true) ⟨env, H⟩ Q := dwp_drawt bef hbef _ (Above.refl H) h
theorem index76 {l : List Inj} {p : Option (Nat × Nat × Nat)} {c : Nat} {ex : Bool} {H : DH} (hll : l.length ≤ 9223372036854775807) (hs : Sl H 4 (l.map Inj.row) p) : CallWp Tryd.prog X3 76 [.sl p l.length c ex, .func (.func 48) [] []] H (fun r H' => (∃ q, r = .int .i64 q ∧ decide (q ≥ 0) = l.any offF) ∧ Above H H') := by
  refine enter rfl Tryd.func76 rfl Tryd.ntmps76 rfl ?_
  dsimp only [List.cons_append, List.nil_append, List.length_cons, List.length_nil, List.replicate_succ, List.replicate_zero, Nat.reduceAdd, Nat.reduceSub]
  repeat' (first | dsimp only [putD, DV.cells, DH.new_next, DH.set_next, List.length_cons, List.length_nil, Nat.reduceAdd, List.set_cons_zero, List.set_cons_succ, getD_zero, getD_succ, fieldAt_zero, fieldAt_succ, thenD, blockD, retR] | apply dwp_seq | apply dwp_region | apply ops_nil | (apply ops_plain; (· exact rfl)) | (apply op_at; (· exact rfl)) | apply dwp_block | fail)
  refine dwp_loop (fun st => ∃ (H1 : DH) (k : Nat), ∃ J : Nat → DV, (Above H H1 ∧ k ≤ l.length ∧ ∀ i t, i < k → l[i]? = some t → offF t = false) ∧ st = ⟨[.sl p l.length c ex, .func (.func 48) [] [], J 2, J 3, .int .i64 0, J 5, .sl p l.length c ex, .int .i64 (l.length : Int), .int .i64 (k : Int), J 9, J 10, J 11, J 12, J 13, J 14, J 15, J 16, J 17, J 18], H1⟩) (fun st => l.length - kOf st 8) (⟨_, 0, junk_facts (⟨Above.refl _, Nat.zero_le _, fun i t h => absurd h (by omega)⟩) rfl rfl⟩) ?_
  rintro st ⟨H1, k, J, ⟨hab, hk, hbef⟩, rfl⟩
  by_cases hlt : k < l.length
  · obtain ⟨x, hx⟩ : ∃ x, l[k]? = some x := ⟨l[k], List.getElem?_eq_getElem hlt⟩
    obtain ⟨loc, i0, ro, rs, rfl, hloc, ho, hrx⟩ := (hs.mono hab).rd (k := k) (r := x.row) (by rw [List.getElem?_map, hx]; rfl)
    have hr1 : rs[i0 + ((k : Int)).toNat]? = some x.row := by rw [Int.toNat_natCast]; exact hrx
    have hc : decide ((k : Int) < (l.length : Int)) = true := by simp [hlt]
    have hin1 : 0 ≤ (k : Int) ∧ (k : Int) < (l.length : Int) := by omega
    have hw : IntKind.i64.wrap ((k : Int) + 1) = ((k + 1 : Nat) : Int) := by rw [wrapI (by omega)]; rfl
    cases hbig : offF x with
    | true =>
      have hf : l.any offF = true := by
        rw [List.any_eq_true]
        exact ⟨x, List.mem_of_getElem? hx, hbig⟩
      repeat' (first | dsimp only [putD, DV.cells, DH.new_next, DH.set_next, List.length_cons, List.length_nil, Nat.reduceAdd, List.set_cons_zero, List.set_cons_succ, getD_zero, getD_succ, fieldAt_zero, fieldAt_succ, thenD, blockD, retR] | apply dwp_seq | apply dwp_region | apply ops_nil | (apply ops_plain; (· exact rfl)) | (apply op_call; (· exact rfl); (· exact rfl); (· exact rfl); (refine (off48 x _).mono ?_; rintro r H' ⟨rfl, hab2⟩; replace hab := hab.trans hab2)) | (apply op_index_at; (· exact rfl); (· exact rfl); (· exact rfl); (· with_reducible exact hin1); (· exact rfl); (· exact rfl)) | (apply op_load_at; (· exact rfl); (· exact rfl); (· exact ho); (· exact hr1); (· exact partInjR x)) | (apply op_at; (· exact rfl)) | (apply dwp_cond_t; (· exact rfl); (· (with_reducible first | assumption | rfl | decide))) | apply dwp_block | apply dwp_skip | apply dwp_ret | (refine ⟨_, rfl, ?_⟩) | fail)
      exact ⟨⟨_, rfl, by rw [hf]; simp⟩, hab⟩
    | false =>
      repeat' (first | dsimp only [putD, DV.cells, DH.new_next, DH.set_next, List.length_cons, List.length_nil, Nat.reduceAdd, List.set_cons_zero, List.set_cons_succ, getD_zero, getD_succ, fieldAt_zero, fieldAt_succ, thenD, blockD, retR] | apply dwp_seq | apply dwp_region | apply ops_nil | (apply ops_plain; (· exact rfl)) | (apply op_call; (· exact rfl); (· exact rfl); (· exact rfl); (refine (off48 x _).mono ?_; rintro r H' ⟨rfl, hab2⟩; replace hab := hab.trans hab2)) | (apply op_index_at; (· exact rfl); (· exact rfl); (· exact rfl); (· with_reducible exact hin1); (· exact rfl); (· exact rfl)) | (apply op_load_at; (· exact rfl); (· exact rfl); (· exact ho); (· exact hr1); (· exact partInjR x)) | (apply op_told; (· exact rfl); (· exact congrArg (DV.int _) hw)) | (apply op_at; (· exact rfl)) | (apply dwp_cond_t; (· exact rfl); (· (with_reducible first | assumption | rfl | decide))) | (apply dwp_cond_f; (· exact rfl); (· (with_reducible first | assumption | rfl | decide))) | apply dwp_block | apply dwp_skip | fail)
      refine ⟨⟨_, k + 1, junk_facts ⟨hab, by omega, fun i t h1 h2 => ?_⟩ rfl rfl⟩, ?_⟩
      · by_cases e : i = k
        · subst e; rw [hx] at h2; cases h2; exact hbig
        · exact hbef i t (by omega) h2
      · show l.length - ((k + 1 : Nat) : Int).toNat < l.length - (k : Int).toNat
        omega
  · have hc : decide ((k : Int) < (l.length : Int)) = false := by simp; omega
    have hall : l.any offF = false := by
      rw [List.any_eq_false]
      intro t ht
      obtain ⟨i, hi⟩ := List.getElem?_of_mem ht
      have := (List.getElem?_eq_some_iff.mp hi).1
      simpa using hbef i t (by omega) hi
    repeat' (first | dsimp only [putD, DV.cells, DH.new_next, DH.set_next, List.length_cons, List.length_nil, Nat.reduceAdd, List.set_cons_zero, List.set_cons_succ, getD_zero, getD_succ, fieldAt_zero, fieldAt_succ, thenD, blockD, retR] | apply dwp_seq | apply dwp_region | apply ops_nil | (apply ops_plain; (· exact rfl)) | (apply op_at; (· exact rfl)) | (apply dwp_cond_f; (· exact rfl); (· (with_reducible first | assumption | rfl | decide))) | apply dwp_ret | apply dwp_exit | (refine ⟨_, rfl, ?_⟩) | fail)
    exact ⟨⟨_, rfl, by rw [hall]; decide⟩, hab⟩
theorem contains47 {l : List Inj} {p : Option (Nat × Nat × Nat)} {c : Nat} {ex : Bool} {H : DH} (hll : l.length ≤ 9223372036854775807) (hs : Sl H 4 (l.map Inj.row) p) : CallWp Tryd.prog X3 47 [.sl p l.length c ex, .func (.func 48) [] []] H (fun r H' => r = .bool (l.any offF) ∧ Above H H') := by
  refine enter rfl Tryd.func47 rfl Tryd.ntmps47 rfl ?_
  dsimp only [List.cons_append, List.nil_append, List.length_cons, List.length_nil, List.replicate_succ, List.replicate_zero, Nat.reduceAdd, Nat.reduceSub]
  repeat' (first | dsimp only [putD, DV.cells, DH.new_next, DH.set_next, List.length_cons, List.length_nil, Nat.reduceAdd, List.set_cons_zero, List.set_cons_succ, getD_zero, getD_succ, fieldAt_zero, fieldAt_succ, thenD, blockD, retR] | apply dwp_seq | apply dwp_region | apply ops_nil | (apply ops_plain; (· exact rfl)) | (apply op_call; (· exact rfl); (· exact rfl); (· exact rfl); (refine (index76 hll hs).mono ?_; rintro r H' ⟨⟨q, rfl, hq⟩, hab⟩)) | (apply op_at; (· exact rfl)) | apply dwp_ret | (refine ⟨_, rfl, ?_⟩) | fail)
  exact ⟨by rw [hq], hab⟩
theorem index81 {l : List Ev} {p : Option (Nat × Nat × Nat)} {c : Nat} {ex : Bool} {H : DH} (hll : l.length ≤ 9223372036854775807) (hs : Sl H 5 (l.map Ev.row) p) : CallWp Tryd.prog X3 81 [.sl p l.length c ex, .func (.func 52) [] []] H (fun r H' => (∃ q, r = .int .i64 q ∧ decide (q ≥ 0) = l.any offE) ∧ Above H H') := by
  refine enter rfl Tryd.func81 rfl Tryd.ntmps81 rfl ?_
  dsimp only [List.cons_append, List.nil_append, List.length_cons, List.length_nil, List.replicate_succ, List.replicate_zero, Nat.reduceAdd, Nat.reduceSub]
  repeat' (first | dsimp only [putD, DV.cells, DH.new_next, DH.set_next, List.length_cons, List.length_nil, Nat.reduceAdd, List.set_cons_zero, List.set_cons_succ, getD_zero, getD_succ, fieldAt_zero, fieldAt_succ, thenD, blockD, retR] | apply dwp_seq | apply dwp_region | apply ops_nil | (apply ops_plain; (· exact rfl)) | (apply op_at; (· exact rfl)) | apply dwp_block | fail)
  refine dwp_loop (fun st => ∃ (H1 : DH) (k : Nat), ∃ J : Nat → DV, (Above H H1 ∧ k ≤ l.length ∧ ∀ i t, i < k → l[i]? = some t → offE t = false) ∧ st = ⟨[.sl p l.length c ex, .func (.func 52) [] [], J 2, J 3, .int .i64 0, J 5, .sl p l.length c ex, .int .i64 (l.length : Int), .int .i64 (k : Int), J 9, J 10, J 11, J 12, J 13, J 14, J 15, J 16, J 17, J 18], H1⟩) (fun st => l.length - kOf st 8) (⟨_, 0, junk_facts (⟨Above.refl _, Nat.zero_le _, fun i t h => absurd h (by omega)⟩) rfl rfl⟩) ?_
  rintro st ⟨H1, k, J, ⟨hab, hk, hbef⟩, rfl⟩
  by_cases hlt : k < l.length
  · obtain ⟨x, hx⟩ : ∃ x, l[k]? = some x := ⟨l[k], List.getElem?_eq_getElem hlt⟩
    obtain ⟨loc, i0, ro, rs, rfl, hloc, ho, hrx⟩ := (hs.mono hab).rd (k := k) (r := x.row) (by rw [List.getElem?_map, hx]; rfl)
    have hr1 : rs[i0 + ((k : Int)).toNat]? = some x.row := by rw [Int.toNat_natCast]; exact hrx
    have hc : decide ((k : Int) < (l.length : Int)) = true := by simp [hlt]
    have hin1 : 0 ≤ (k : Int) ∧ (k : Int) < (l.length : Int) := by omega
    have hw : IntKind.i64.wrap ((k : Int) + 1) = ((k + 1 : Nat) : Int) := by rw [wrapI (by omega)]; rfl
    cases hbig : offE x with
    | true =>
      have hf : l.any offE = true := by
        rw [List.any_eq_true]
        exact ⟨x, List.mem_of_getElem? hx, hbig⟩
      repeat' (first | dsimp only [putD, DV.cells, DH.new_next, DH.set_next, List.length_cons, List.length_nil, Nat.reduceAdd, List.set_cons_zero, List.set_cons_succ, getD_zero, getD_succ, fieldAt_zero, fieldAt_succ, thenD, blockD, retR] | apply dwp_seq | apply dwp_region | apply ops_nil | (apply ops_plain; (· exact rfl)) | (apply op_call; (· exact rfl); (· exact rfl); (· exact rfl); (refine (off52 x _).mono ?_; rintro r H' ⟨rfl, hab2⟩; replace hab := hab.trans hab2)) | (apply op_index_at; (· exact rfl); (· exact rfl); (· exact rfl); (· with_reducible exact hin1); (· exact rfl); (· exact rfl)) | (apply op_load_at; (· exact rfl); (· exact rfl); (· exact ho); (· exact hr1); (· exact partEvR x)) | (apply op_at; (· exact rfl)) | (apply dwp_cond_t; (· exact rfl); (· (with_reducible first | assumption | rfl | decide))) | apply dwp_block | apply dwp_skip | apply dwp_ret | (refine ⟨_, rfl, ?_⟩) | fail)
      exact ⟨⟨_, rfl, by rw [hf]; simp⟩, hab⟩
    | false =>
      repeat' (first | dsimp only [putD, DV.cells, DH.new_next, DH.set_next, List.length_cons, List.length_nil, Nat.reduceAdd, List.set_cons_zero, List.set_cons_succ, getD_zero, getD_succ, fieldAt_zero, fieldAt_succ, thenD, blockD, retR] | apply dwp_seq | apply dwp_region | apply ops_nil | (apply ops_plain; (· exact rfl)) | (apply op_call; (· exact rfl); (· exact rfl); (· exact rfl); (refine (off52 x _).mono ?_; rintro r H' ⟨rfl, hab2⟩; replace hab := hab.trans hab2)) | (apply op_index_at; (· exact rfl); (· exact rfl); (· exact rfl); (· with_reducible exact hin1); (· exact rfl); (· exact rfl)) | (apply op_load_at; (· exact rfl); (· exact rfl); (· exact ho); (· exact hr1); (· exact partEvR x)) | (apply op_told; (· exact rfl); (· exact congrArg (DV.int _) hw)) | (apply op_at; (· exact rfl)) | (apply dwp_cond_t; (· exact rfl); (· (with_reducible first | assumption | rfl | decide))) | (apply dwp_cond_f; (· exact rfl); (· (with_reducible first | assumption | rfl | decide))) | apply dwp_block | apply dwp_skip | fail)
      refine ⟨⟨_, k + 1, junk_facts ⟨hab, by omega, fun i t h1 h2 => ?_⟩ rfl rfl⟩, ?_⟩
      · by_cases e : i = k
        · subst e; rw [hx] at h2; cases h2; exact hbig
        · exact hbef i t (by omega) h2
      · show l.length - ((k + 1 : Nat) : Int).toNat < l.length - (k : Int).toNat
        omega
  · have hc : decide ((k : Int) < (l.length : Int)) = false := by simp; omega
    have hall : l.any offE = false := by
      rw [List.any_eq_false]
      intro t ht
      obtain ⟨i, hi⟩ := List.getElem?_of_mem ht
      have := (List.getElem?_eq_some_iff.mp hi).1
      simpa using hbef i t (by omega) hi
    repeat' (first | dsimp only [putD, DV.cells, DH.new_next, DH.set_next, List.length_cons, List.length_nil, Nat.reduceAdd, List.set_cons_zero, List.set_cons_succ, getD_zero, getD_succ, fieldAt_zero, fieldAt_succ, thenD, blockD, retR] | apply dwp_seq | apply dwp_region | apply ops_nil | (apply ops_plain; (· exact rfl)) | (apply op_at; (· exact rfl)) | (apply dwp_cond_f; (· exact rfl); (· (with_reducible first | assumption | rfl | decide))) | apply dwp_ret | apply dwp_exit | (refine ⟨_, rfl, ?_⟩) | fail)
    exact ⟨⟨_, rfl, by rw [hall]; decide⟩, hab⟩
theorem contains51 {l : List Ev} {p : Option (Nat × Nat × Nat)} {c : Nat} {ex : Bool} {H : DH} (hll : l.length ≤ 9223372036854775807) (hs : Sl H 5 (l.map Ev.row) p) : CallWp Tryd.prog X3 51 [.sl p l.length c ex, .func (.func 52) [] []] H (fun r H' => r = .bool (l.any offE) ∧ Above H H') := by
  refine enter rfl Tryd.func51 rfl Tryd.ntmps51 rfl ?_
  dsimp only [List.cons_append, List.nil_append, List.length_cons, List.length_nil, List.replicate_succ, List.replicate_zero, Nat.reduceAdd, Nat.reduceSub]
  repeat' (first | dsimp only [putD, DV.cells, DH.new_next, DH.set_next, List.length_cons, List.length_nil, Nat.reduceAdd, List.set_cons_zero, List.set_cons_succ, getD_zero, getD_succ, fieldAt_zero, fieldAt_succ, thenD, blockD, retR] | apply dwp_seq | apply dwp_region | apply ops_nil | (apply ops_plain; (· exact rfl)) | (apply op_call; (· exact rfl); (· exact rfl); (· exact rfl); (refine (index81 hll hs).mono ?_; rintro r H' ⟨⟨q, rfl, hq⟩, hab⟩)) | (apply op_at; (· exact rfl)) | apply dwp_ret | (refine ⟨_, rfl, ?_⟩) | fail)
  exact ⟨by rw [hq], hab⟩
/-! ### in order -/
def sortedB : List Inj → Bool
  | x :: y :: r => !decide (compareF y x < 0) && sortedB (y :: r)
  | _ => true
theorem sortedB_tail {x : Inj} {l : List Inj} (h : sortedB (x :: l) = true) : sortedB l = true := by
  cases l with
  | nil => rfl
  | cons y r => simp only [sortedB, Bool.and_eq_true] at h; exact h.2
theorem sortedB_drop (l : List Inj) (h : sortedB l = true) : ∀ k, sortedB (l.drop k) = true := by
  induction l with
  | nil => intro k; rw [List.drop_nil]; rfl
  | cons x r ih =>
    intro k
    cases k with
    | zero => exact h
    | succ k => rw [List.drop_succ_cons]; exact ih (sortedB_tail h) k
theorem drop_two {l : List Inj} {k : Nat} {x y : Inj} (hx : l[k]? = some x) (hy : l[k + 1]? = some y) : l.drop k = x :: y :: l.drop (k + 2) := by
  obtain ⟨h1, rfl⟩ := List.getElem?_eq_some_iff.mp hx
  obtain ⟨h2, rfl⟩ := List.getElem?_eq_some_iff.mp hy
  rw [List.drop_eq_getElem_cons h1, List.drop_eq_getElem_cons h2]
theorem sorted49 {l : List Inj} {p : Option (Nat × Nat × Nat)} {c : Nat} {ex : Bool} {H : DH} (hll : l.length ≤ 9223372036854775807) (hs : Sl H 4 (l.map Inj.row) p) : CallWp Tryd.prog X3 49 [.sl p l.length c ex, .func (.func 50) [] []] H (fun r H' => r = .bool (sortedB l) ∧ Above H H') := by
  by_cases hl0 : l = []
  · subst hl0
    have hw0 : IntKind.i64.wrap ((([] : List Inj).length : Int) - 1) = -1 := rfl
    refine enter rfl Tryd.func49 rfl Tryd.ntmps49 rfl ?_
    dsimp only [List.cons_append, List.nil_append, List.length_cons, List.length_nil, List.replicate_succ, List.replicate_zero, Nat.reduceAdd, Nat.reduceSub]
    repeat' (first | dsimp only [putD, DV.cells, DH.new_next, DH.set_next, List.length_cons, List.length_nil, Nat.reduceAdd, List.set_cons_zero, List.set_cons_succ, getD_zero, getD_succ, fieldAt_zero, fieldAt_succ, thenD, blockD, retR] | refine dwp_round ?_ | apply dwp_seq | apply dwp_region | apply ops_nil | (apply ops_plain; (· exact rfl)) | (apply op_told; (· exact rfl); (· exact congrArg (DV.int _) hw0)) | (apply op_at; (· exact rfl)) | (apply dwp_cond_f; (· exact rfl); (· (with_reducible first | assumption | rfl | decide))) | apply dwp_block | apply dwp_ret | apply dwp_exit | (refine ⟨_, rfl, ?_⟩) | fail)
    exact ⟨rfl, Above.refl _⟩
  have hpos : 0 < l.length := List.length_pos_iff.mpr hl0
  have hw0 : IntKind.i64.wrap ((l.length : Int) - 1) = ((l.length - 1 : Nat) : Int) := by rw [wrapI (by omega)]; omega
  refine enter rfl Tryd.func49 rfl Tryd.ntmps49 rfl ?_
  dsimp only [List.cons_append, List.nil_append, List.length_cons, List.length_nil, List.replicate_succ, List.replicate_zero, Nat.reduceAdd, Nat.reduceSub]
  repeat' (first | dsimp only [putD, DV.cells, DH.new_next, DH.set_next, List.length_cons, List.length_nil, Nat.reduceAdd, List.set_cons_zero, List.set_cons_succ, getD_zero, getD_succ, fieldAt_zero, fieldAt_succ, thenD, blockD, retR] | apply dwp_seq | apply dwp_region | apply ops_nil | (apply ops_plain; (· exact rfl)) | (apply op_told; (· exact rfl); (· exact congrArg (DV.int _) hw0)) | (apply op_at; (· exact rfl)) | apply dwp_block | fail)
  refine dwp_loop (fun st => ∃ (H1 : DH) (k : Nat), ∃ J : Nat → DV, (Above H H1 ∧ k < l.length ∧ sortedB (l.drop k) = true) ∧ st = ⟨[.sl p l.length c ex, .func (.func 50) [] [], J 2, J 3, .bool false, .int .i64 (k : Int), J 6, J 7, J 8, J 9, J 10, J 11, J 12, J 13, J 14, J 15, J 16, J 17, J 18, J 19, J 20, J 21, J 22, J 23, J 24], H1⟩) (fun st => kOf st 5) (⟨_, l.length - 1, junk_facts (⟨Above.refl _, by omega, by rw [List.drop_eq_getElem_cons (by omega)]; rw [show l.length - 1 + 1 = l.length by omega, List.drop_length]; rfl⟩) rfl rfl⟩) ?_
  rintro st ⟨H1, k, J, ⟨hab, hk, hbef⟩, rfl⟩
  by_cases hlt : 0 < k
  · obtain ⟨m, rfl⟩ : ∃ m, k = m + 1 := ⟨k - 1, by omega⟩
    obtain ⟨y, hy⟩ : ∃ y, l[m + 1]? = some y := ⟨l[m + 1], List.getElem?_eq_getElem hk⟩
    obtain ⟨x, hx⟩ : ∃ x, l[m]? = some x := ⟨l[m], List.getElem?_eq_getElem (by omega)⟩
    obtain ⟨loc, i0, ro, rs, rfl, hloc, ho, hrd⟩ := sl_all (hs.mono hab) (by simpa using hl0)
    have hc : decide (((m + 1 : Nat) : Int) > 0) = true := by simp <;> omega
    have hw : IntKind.i64.wrap (((m + 1 : Nat) : Int) - 1) = (m : Int) := by rw [wrapI (by omega)]; omega
    have hr1 : rs[i0 + (((m + 1 : Nat) : Int)).toNat]? = some y.row := by rw [Int.toNat_natCast]; exact hrd _ _ (by rw [List.getElem?_map, hy]; rfl)
    have hr2 : rs[i0 + ((IntKind.i64.wrap (((m + 1 : Nat) : Int) - 1))).toNat]? = some x.row := by rw [hw, Int.toNat_natCast]; exact hrd _ _ (by rw [List.getElem?_map, hx]; rfl)
    have hin1 : 0 ≤ ((m + 1 : Nat) : Int) ∧ ((m + 1 : Nat) : Int) < (l.length : Int) := by omega
    have hin2 : 0 ≤ IntKind.i64.wrap (((m + 1 : Nat) : Int) - 1) ∧ IntKind.i64.wrap (((m + 1 : Nat) : Int) - 1) < (l.length : Int) := by rw [hw]; omega
    have hd := drop_two hx hy
    have hd1 : l.drop (m + 1) = y :: l.drop (m + 2) := by rw [List.drop_eq_getElem_cons hk, (List.getElem?_eq_some_iff.mp hy).2]
    rw [hd1] at hbef
    cases hcmp : decide (compareF y x < 0) with
    | true =>
      have hf : sortedB l = false := by
        cases h : sortedB l with
        | false => rfl
        | true =>
          have h2 := sortedB_drop l h m
          rw [hd] at h2
          simp only [sortedB, hcmp] at h2
          exact absurd h2 (by simp)
      repeat' (first | dsimp only [putD, DV.cells, DH.new_next, DH.set_next, List.length_cons, List.length_nil, Nat.reduceAdd, List.set_cons_zero, List.set_cons_succ, getD_zero, getD_succ, fieldAt_zero, fieldAt_succ, thenD, blockD, retR] | (apply dwp_drawt_ab; (· exact rfl)) | apply drawt_nil | (apply drawt_pure; (· (first | exact wanted_plain rfl | (apply wanted_on; (· exact rfl); (· exact rfl); (· (with_reducible first | assumption | rfl | decide))))); (· exact rfl); (· exact rfl); (· exact opD_index rfl rfl rfl rfl rfl hin1)) | (apply drawt_pure; (· (first | exact wanted_plain rfl | (apply wanted_on; (· exact rfl); (· exact rfl); (· (with_reducible first | assumption | rfl | decide))))); (· exact rfl); (· exact rfl); (· exact opD_index rfl rfl rfl rfl rfl hin2)) | (apply drawt_read; (· (first | exact wanted_plain rfl | (apply wanted_on; (· exact rfl); (· exact rfl); (· (with_reducible first | assumption | rfl | decide))))); (· exact rfl); (· exact rfl); (· intro H' h; have h : Above _ H' := h; exact opD_load rfl rfl (h.obj hloc ho) hr1 (partInjR y)); (· intro H' h; have h : Above _ H' := h; exact opD_load rfl rfl (h.obj hloc ho) hr1 (partInjR y))) | (apply drawt_read; (· (first | exact wanted_plain rfl | (apply wanted_on; (· exact rfl); (· exact rfl); (· (with_reducible first | assumption | rfl | decide))))); (· exact rfl); (· exact rfl); (· intro H' h; have h : Above _ H' := h; exact opD_load rfl rfl (h.obj hloc ho) hr2 (partInjR x)); (· intro H' h; have h : Above _ H' := h; exact opD_load rfl rfl (h.obj hloc ho) hr2 (partInjR x))) | (apply drawt_pure; (· (first | exact wanted_plain rfl | (apply wanted_on; (· exact rfl); (· exact rfl); (· (with_reducible first | assumption | rfl | decide))))); (· exact rfl); (· exact rfl); (· exact rfl)) | (apply drawt_move; (· (first | exact wanted_plain rfl | (apply wanted_on; (· exact rfl); (· exact rfl); (· (with_reducible first | assumption | rfl | decide))))); (· exact rfl); (· exact id)) | apply dwp_seq | apply dwp_region | apply ops_nil | (apply ops_plain; (· exact rfl)) | (apply op_call; (· exact rfl); (· exact rfl); (· exact rfl); (refine (compare50 y x _).mono ?_; rintro r H' ⟨rfl, hab2⟩; replace hab := hab.trans hab2; refine ⟨hab2, ?_⟩)) | (apply op_at; (· exact rfl)) | (apply dwp_cond_t; (· exact rfl); (· (with_reducible first | assumption | rfl | decide))) | apply dwp_block | apply dwp_skip | apply dwp_ret | (refine ⟨_, rfl, ?_⟩) | fail)
      exact ⟨by rw [hf], hab⟩
    | false =>
      repeat' (first | dsimp only [putD, DV.cells, DH.new_next, DH.set_next, List.length_cons, List.length_nil, Nat.reduceAdd, List.set_cons_zero, List.set_cons_succ, getD_zero, getD_succ, fieldAt_zero, fieldAt_succ, thenD, blockD, retR] | (apply dwp_drawt_ab; (· exact rfl)) | apply drawt_nil | (apply drawt_pure; (· (first | exact wanted_plain rfl | (apply wanted_on; (· exact rfl); (· exact rfl); (· (with_reducible first | assumption | rfl | decide))))); (· exact rfl); (· exact rfl); (· exact opD_index rfl rfl rfl rfl rfl hin1)) | (apply drawt_pure; (· (first | exact wanted_plain rfl | (apply wanted_on; (· exact rfl); (· exact rfl); (· (with_reducible first | assumption | rfl | decide))))); (· exact rfl); (· exact rfl); (· exact opD_index rfl rfl rfl rfl rfl hin2)) | (apply drawt_read; (· (first | exact wanted_plain rfl | (apply wanted_on; (· exact rfl); (· exact rfl); (· (with_reducible first | assumption | rfl | decide))))); (· exact rfl); (· exact rfl); (· intro H' h; have h : Above _ H' := h; exact opD_load rfl rfl (h.obj hloc ho) hr1 (partInjR y)); (· intro H' h; have h : Above _ H' := h; exact opD_load rfl rfl (h.obj hloc ho) hr1 (partInjR y))) | (apply drawt_read; (· (first | exact wanted_plain rfl | (apply wanted_on; (· exact rfl); (· exact rfl); (· (with_reducible first | assumption | rfl | decide))))); (· exact rfl); (· exact rfl); (· intro H' h; have h : Above _ H' := h; exact opD_load rfl rfl (h.obj hloc ho) hr2 (partInjR x)); (· intro H' h; have h : Above _ H' := h; exact opD_load rfl rfl (h.obj hloc ho) hr2 (partInjR x))) | (apply drawt_pure; (· (first | exact wanted_plain rfl | (apply wanted_on; (· exact rfl); (· exact rfl); (· (with_reducible first | assumption | rfl | decide))))); (· exact rfl); (· exact rfl); (· exact rfl)) | (apply drawt_move; (· (first | exact wanted_plain rfl | (apply wanted_on; (· exact rfl); (· exact rfl); (· (with_reducible first | assumption | rfl | decide))))); (· exact rfl); (· exact id)) | apply dwp_seq | apply dwp_region | apply ops_nil | (apply ops_plain; (· exact rfl)) | (apply op_call; (· exact rfl); (· exact rfl); (· exact rfl); (refine (compare50 y x _).mono ?_; rintro r H' ⟨rfl, hab2⟩; replace hab := hab.trans hab2; refine ⟨hab2, ?_⟩)) | (apply op_told; (· exact rfl); (· exact congrArg (DV.int _) hw)) | (apply op_at; (· exact rfl)) | (apply dwp_cond_t; (· exact rfl); (· (with_reducible first | assumption | rfl | decide))) | (apply dwp_cond_f; (· exact rfl); (· (with_reducible first | assumption | rfl | decide))) | apply dwp_block | apply dwp_skip | fail)
      refine ⟨⟨_, m, junk_facts ⟨hab, by omega, ?_⟩ rfl rfl⟩, ?_⟩
      · rw [hd]
        simp only [sortedB, hcmp, Bool.not_false, Bool.true_and]
        exact hbef
      · show ((m : Nat) : Int).toNat < ((m + 1 : Nat) : Int).toNat
        omega
  · have hk0 : k = 0 := by omega
    subst hk0
    rw [List.drop_zero] at hbef
    have hc : decide (((0 : Nat) : Int) > 0) = false := by decide
    repeat' (first | dsimp only [putD, DV.cells, DH.new_next, DH.set_next, List.length_cons, List.length_nil, Nat.reduceAdd, List.set_cons_zero, List.set_cons_succ, getD_zero, getD_succ, fieldAt_zero, fieldAt_succ, thenD, blockD, retR] | apply dwp_seq | apply dwp_region | apply ops_nil | (apply ops_plain; (· exact rfl)) | (apply op_at; (· exact rfl)) | (apply dwp_cond_f; (· exact rfl); (· (with_reducible first | assumption | rfl | decide))) | apply dwp_ret | apply dwp_exit | (refine ⟨_, rfl, ?_⟩) | fail)
    exact ⟨by rw [hbef], hab⟩
/-! ### a table's Check -/
def tabOk (l : List Inj) : Bool := !(decide (l.length > 500) || (l.any offF || !sortedB l))
theorem check20 {l : List Inj} {p : Option (Nat × Nat × Nat)} {c : Nat} {ex : Bool} {H : DH} (hll : l.length ≤ 9223372036854775807) (hs : Sl H 4 (l.map Inj.row) p) : CallWp Tryd.prog X3 20 [.sl p l.length c ex] H (fun r H' => r = .int .i64 (if tabOk l then 0 else 1) ∧ Above H H') := by
  cases h1 : decide ((l.length : Int) > 500) with
  | true =>
    have e : tabOk l = false := by unfold tabOk; rw [show decide (l.length > 500) = true by simp at h1 ⊢; omega]; rfl
    rw [e]
    refine enter rfl Tryd.func20 rfl Tryd.ntmps20 rfl ?_
    dsimp only [List.cons_append, List.nil_append, List.length_cons, List.length_nil, List.replicate_succ, List.replicate_zero, Nat.reduceAdd, Nat.reduceSub]
    repeat' (first | dsimp only [putD, DV.cells, DH.new_next, DH.set_next, List.length_cons, List.length_nil, Nat.reduceAdd, List.set_cons_zero, List.set_cons_succ, getD_zero, getD_succ, fieldAt_zero, fieldAt_succ, thenD, blockD, retR] | apply dwp_seq | apply dwp_region | apply ops_nil | (apply ops_plain; (· exact rfl)) | (apply ops_off0; (· exact rfl); (· exact rfl); (· (with_reducible first | assumption | rfl | decide))) | (apply op_pick_t; (· exact rfl); (· exact rfl); (· (with_reducible first | assumption | rfl | decide)); (· exact rfl)) | (apply op_at; (· exact rfl)) | (apply dwp_cond_t; (· exact rfl); (· (with_reducible first | assumption | rfl | decide))) | apply dwp_ret | (refine ⟨_, rfl, ?_⟩) | fail)
    exact ⟨rfl, Above.refl _⟩
  | false =>
    have e0 : decide (l.length > 500) = false := by simp at h1 ⊢; omega
    cases h2 : l.any offF with
    | true =>
      have e : tabOk l = false := by unfold tabOk; rw [e0, h2]; rfl
      rw [e]
      refine enter rfl Tryd.func20 rfl Tryd.ntmps20 rfl ?_
      dsimp only [List.cons_append, List.nil_append, List.length_cons, List.length_nil, List.replicate_succ, List.replicate_zero, Nat.reduceAdd, Nat.reduceSub]
      repeat' (first | dsimp only [putD, DV.cells, DH.new_next, DH.set_next, List.length_cons, List.length_nil, Nat.reduceAdd, List.set_cons_zero, List.set_cons_succ, getD_zero, getD_succ, fieldAt_zero, fieldAt_succ, thenD, blockD, retR] | apply dwp_seq | apply dwp_region | apply ops_nil | (apply ops_plain; (· exact rfl)) | (apply ops_on; (· exact rfl); (· exact rfl); (· (with_reducible first | assumption | rfl | decide))) | (apply ops_off0; (· exact rfl); (· exact rfl); (· (with_reducible first | assumption | rfl | decide))) | (apply op_call; (· exact rfl); (· exact rfl); (· exact rfl); (refine (contains47 hll hs).mono ?_; rintro r H' ⟨rfl, hab⟩)) | (apply op_pick_t; (· exact rfl); (· exact rfl); (· (with_reducible first | assumption | rfl | decide)); (· exact rfl)) | (apply op_pick_f; (· exact rfl); (· exact rfl); (· (with_reducible first | assumption | rfl | decide)); (· exact rfl)) | (apply op_at; (· exact rfl)) | (apply dwp_cond_t; (· exact rfl); (· (with_reducible first | assumption | rfl | decide))) | apply dwp_ret | (refine ⟨_, rfl, ?_⟩) | fail)
      exact ⟨rfl, by assumption⟩
    | false =>
      cases h3 : sortedB l with
      | true =>
        have e : tabOk l = true := by unfold tabOk; rw [e0, h2, h3]; rfl
        rw [e]
        have h3' : (!sortedB l) = false := by rw [h3]; rfl
        refine enter rfl Tryd.func20 rfl Tryd.ntmps20 rfl ?_
        dsimp only [List.cons_append, List.nil_append, List.length_cons, List.length_nil, List.replicate_succ, List.replicate_zero, Nat.reduceAdd, Nat.reduceSub]
        repeat' (first | dsimp only [putD, DV.cells, DH.new_next, DH.set_next, List.length_cons, List.length_nil, Nat.reduceAdd, List.set_cons_zero, List.set_cons_succ, getD_zero, getD_succ, fieldAt_zero, fieldAt_succ, thenD, blockD, retR] | apply dwp_seq | apply dwp_region | apply ops_nil | (apply ops_plain; (· exact rfl)) | (apply ops_on; (· exact rfl); (· exact rfl); (· (with_reducible first | assumption | rfl | decide))) | (apply op_call; (· exact rfl); (· exact rfl); (· exact rfl); (refine (contains47 hll hs).mono ?_; rintro r H' ⟨rfl, hab⟩)) | (apply op_call; (· exact rfl); (· exact rfl); (· exact rfl); (refine (sorted49 hll (hs.mono hab)).mono ?_; rintro r H' ⟨rfl, hab2⟩; replace hab := hab.trans hab2)) | (apply op_pick_f; (· exact rfl); (· exact rfl); (· (with_reducible first | assumption | rfl | decide)); (· exact rfl)) | (apply op_at; (· exact rfl)) | (apply dwp_cond_f; (· exact rfl); (· (with_reducible first | assumption | rfl | decide))) | apply dwp_skip | apply dwp_ret | (refine ⟨_, rfl, ?_⟩) | fail)
        exact ⟨rfl, by assumption⟩
      | false =>
        have e : tabOk l = false := by unfold tabOk; rw [e0, h2, h3]; rfl
        rw [e]
        have h3' : (!sortedB l) = true := by rw [h3]; rfl
        refine enter rfl Tryd.func20 rfl Tryd.ntmps20 rfl ?_
        dsimp only [List.cons_append, List.nil_append, List.length_cons, List.length_nil, List.replicate_succ, List.replicate_zero, Nat.reduceAdd, Nat.reduceSub]
        repeat' (first | dsimp only [putD, DV.cells, DH.new_next, DH.set_next, List.length_cons, List.length_nil, Nat.reduceAdd, List.set_cons_zero, List.set_cons_succ, getD_zero, getD_succ, fieldAt_zero, fieldAt_succ, thenD, blockD, retR] | apply dwp_seq | apply dwp_region | apply ops_nil | (apply ops_plain; (· exact rfl)) | (apply ops_on; (· exact rfl); (· exact rfl); (· (with_reducible first | assumption | rfl | decide))) | (apply op_call; (· exact rfl); (· exact rfl); (· exact rfl); (refine (contains47 hll hs).mono ?_; rintro r H' ⟨rfl, hab⟩)) | (apply op_call; (· exact rfl); (· exact rfl); (· exact rfl); (refine (sorted49 hll (hs.mono hab)).mono ?_; rintro r H' ⟨rfl, hab2⟩; replace hab := hab.trans hab2)) | (apply op_pick_f; (· exact rfl); (· exact rfl); (· (with_reducible first | assumption | rfl | decide)); (· exact rfl)) | (apply op_at; (· exact rfl)) | (apply dwp_cond_t; (· exact rfl); (· (with_reducible first | assumption | rfl | decide))) | apply dwp_ret | (refine ⟨_, rfl, ?_⟩) | fail)
        exact ⟨rfl, by assumption⟩
end Go.Det.C

/- A log's Check; what is counted. -/
namespace Go.Det.C
open Go Go.Det Go.Proofs
set_option maxRecDepth 4000
set_option maxHeartbeats 4000000
set_option linter.unusedVariables false
set_option linter.unusedSimpArgs false
theorem partFire (a b c d e f g : DV) : partD Tryd.prog 32 [a, b, c, d, e, f, g] 0 = some (.agg [a, b, c, d, e, f, g]) := rfl
theorem partFireR (f : Fire) : partD Tryd.prog 32 f.row 0 = some (.agg f.row) := rfl
theorem zero32 : zeroT Tryd.prog 32 = some (.agg [.int .i64 0, .int .i64 0, .int .i64 0, .int .i64 0, .bool false, .bool false, .int .i64 0]) := by kernel_rfl
theorem zero30 : zeroT Tryd.prog 30 = some (.agg [.int .i64 0, .int .i64 0, .int .i64 0, .int .i64 0]) := by kernel_rfl
theorem zero34 : zeroT Tryd.prog 34 = some (.agg [.int .i64 0, .int .i64 0, .int .i64 0, .int .i64 0, .int .i64 0]) := by kernel_rfl
/-! ### a log's Check -/
def ordP (l : List Ev) : Prop := ∀ i x y, l[i]? = some x → l[i + 1]? = some y → ¬ y.t < x.t
def ordB (l : List Ev) : Bool := (List.range l.length).all fun i => match l[i]?, l[i + 1]? with
  | some x, some y => !decide (y.t < x.t)
  | _, _ => true
theorem ordB_iff (l : List Ev) : ordB l = true ↔ ordP l := by
  unfold ordB ordP
  rw [List.all_eq_true]
  constructor
  · intro h i x y hx hy
    have := h i (by rw [List.mem_range]; exact (List.getElem?_eq_some_iff.mp hx).1)
    rw [hx, hy] at this
    simpa using this
  · intro h i _
    cases hx : l[i]? with
    | none => rfl
    | some x =>
      cases hy : l[i + 1]? with
      | none => rfl
      | some y => simpa using h i x y hx hy
instance (l : List Ev) : Decidable (ordP l) := decidable_of_iff _ (ordB_iff l)
def evOk (l : List Ev) : Bool := !(decide (l.length > 20000) || l.any offE) && decide (ordP l)
theorem check21 {l : List Ev} {p : Option (Nat × Nat × Nat)} {c : Nat} {ex : Bool} {H : DH} (hll : l.length ≤ 9223372036854775807) (hs : Sl H 5 (l.map Ev.row) p) : CallWp Tryd.prog X3 21 [.sl p l.length c ex] H (fun r H' => r = .int .i64 (if evOk l then 0 else 1) ∧ Above H H') := by
  cases h1 : decide ((l.length : Int) > 20000) with
  | true =>
    have e : evOk l = false := by unfold evOk; rw [show decide (l.length > 20000) = true by simp at h1 ⊢; omega]; rfl
    rw [e]
    refine enter rfl Tryd.func21 rfl Tryd.ntmps21 rfl ?_
    dsimp only [List.cons_append, List.nil_append, List.length_cons, List.length_nil, List.replicate_succ, List.replicate_zero, Nat.reduceAdd, Nat.reduceSub]
    repeat' (first | dsimp only [putD, DV.cells, DH.new_next, DH.set_next, List.length_cons, List.length_nil, Nat.reduceAdd, List.set_cons_zero, List.set_cons_succ, getD_zero, getD_succ, fieldAt_zero, fieldAt_succ, thenD, blockD, retR] | apply dwp_seq | apply dwp_region | apply ops_nil | (apply ops_plain; (· exact rfl)) | (apply ops_off0; (· exact rfl); (· exact rfl); (· (with_reducible first | assumption | rfl | decide))) | (apply op_pick_t; (· exact rfl); (· exact rfl); (· (with_reducible first | assumption | rfl | decide)); (· exact rfl)) | (apply op_at; (· exact rfl)) | (apply dwp_cond_t; (· exact rfl); (· (with_reducible first | assumption | rfl | decide))) | apply dwp_ret | (refine ⟨_, rfl, ?_⟩) | fail)
    exact ⟨rfl, Above.refl _⟩
  | false =>
    have e0 : decide (l.length > 20000) = false := by simp at h1 ⊢; omega
    have hl2 : l.length ≤ 20000 := by simpa using e0
    cases h2 : l.any offE with
    | true =>
      have e : evOk l = false := by unfold evOk; rw [e0, h2]; rfl
      rw [e]
      refine enter rfl Tryd.func21 rfl Tryd.ntmps21 rfl ?_
      dsimp only [List.cons_append, List.nil_append, List.length_cons, List.length_nil, List.replicate_succ, List.replicate_zero, Nat.reduceAdd, Nat.reduceSub]
      repeat' (first | dsimp only [putD, DV.cells, DH.new_next, DH.set_next, List.length_cons, List.length_nil, Nat.reduceAdd, List.set_cons_zero, List.set_cons_succ, getD_zero, getD_succ, fieldAt_zero, fieldAt_succ, thenD, blockD, retR] | apply dwp_seq | apply dwp_region | apply ops_nil | (apply ops_plain; (· exact rfl)) | (apply ops_on; (· exact rfl); (· exact rfl); (· (with_reducible first | assumption | rfl | decide))) | (apply op_call; (· exact rfl); (· exact rfl); (· exact rfl); (refine (contains51 hll hs).mono ?_; rintro r H' ⟨rfl, hab⟩)) | (apply op_pick_f; (· exact rfl); (· exact rfl); (· (with_reducible first | assumption | rfl | decide)); (· exact rfl)) | (apply op_at; (· exact rfl)) | (apply dwp_cond_t; (· exact rfl); (· (with_reducible first | assumption | rfl | decide))) | apply dwp_ret | (refine ⟨_, rfl, ?_⟩) | fail)
      exact ⟨rfl, by assumption⟩
    | false =>
      have e : evOk l = decide (ordP l) := by unfold evOk; rw [e0, h2]; rfl
      rw [e]
      refine enter rfl Tryd.func21 rfl Tryd.ntmps21 rfl ?_
      dsimp only [List.cons_append, List.nil_append, List.length_cons, List.length_nil, List.replicate_succ, List.replicate_zero, Nat.reduceAdd, Nat.reduceSub]
      repeat' (first | dsimp only [putD, DV.cells, DH.new_next, DH.set_next, List.length_cons, List.length_nil, Nat.reduceAdd, List.set_cons_zero, List.set_cons_succ, getD_zero, getD_succ, fieldAt_zero, fieldAt_succ, thenD, blockD, retR] | apply dwp_seq | apply dwp_region | apply ops_nil | (apply ops_plain; (· exact rfl)) | (apply ops_on; (· exact rfl); (· exact rfl); (· (with_reducible first | assumption | rfl | decide))) | (apply op_call; (· exact rfl); (· exact rfl); (· exact rfl); (refine (contains51 hll hs).mono ?_; rintro r H' ⟨rfl, hab⟩)) | (apply op_pick_f; (· exact rfl); (· exact rfl); (· (with_reducible first | assumption | rfl | decide)); (· exact rfl)) | (apply op_at; (· exact rfl)) | (apply dwp_cond_f; (· exact rfl); (· (with_reducible first | assumption | rfl | decide))) | apply dwp_block | apply dwp_skip | fail)
      refine dwp_loop (fun st => ∃ (H1 : DH) (k : Nat), ∃ J : Nat → DV, (Above H H1 ∧ 0 < k ∧ ∀ i x y, i + 1 < k → l[i]? = some x → l[i + 1]? = some y → ¬ y.t < x.t) ∧ st = ⟨(.sl p l.length c ex :: J 1 :: .int .i64 0 :: .int .i64 (k : Int) :: J 4 :: J 5 :: J 6 :: J 7 :: J 8 :: J 9 :: J 10 :: J 11 :: J 12 :: J 13 :: J 14 :: J 15 :: J 16 :: J 17 :: J 18 :: J 19 :: J 20 :: J 21 :: J 22 :: J 23 :: J 24 :: J 25 :: J 26 :: J 27 :: J 28 :: []), H1⟩) (fun st => l.length - kOf st 3) (⟨_, 1, junk_facts (⟨by assumption, by omega, fun i x y h => absurd h (by omega)⟩) rfl rfl⟩) ?_
      rintro st ⟨H1, k, J, ⟨hab, hk, hbef⟩, rfl⟩
      by_cases hlt : k < l.length
      · obtain ⟨m, rfl⟩ : ∃ m, k = m + 1 := ⟨k - 1, by omega⟩
        obtain ⟨y, hy⟩ : ∃ y, l[m + 1]? = some y := ⟨l[m + 1], List.getElem?_eq_getElem hlt⟩
        obtain ⟨x, hx⟩ : ∃ x, l[m]? = some x := ⟨l[m], List.getElem?_eq_getElem (by omega)⟩
        obtain ⟨loc, i0, ro, rs, rfl, hloc, ho, hrd⟩ := sl_all (hs.mono hab) (by intro h; rw [List.map_eq_nil_iff] at h; rw [h] at hlt; exact absurd hlt (by simp))
        have hc : decide (((m + 1 : Nat) : Int) < (l.length : Int)) = true := by simp; omega
        have hw : IntKind.i64.wrap (((m + 1 : Nat) : Int) + 1) = ((m + 1 + 1 : Nat) : Int) := by rw [wrapI (by omega)]; rfl
        have hwm : IntKind.i64.wrap (((m + 1 : Nat) : Int) - 1) = (m : Int) := by rw [wrapI (by omega)]; omega
        have hr1 : rs[i0 + (((m + 1 : Nat) : Int)).toNat]? = some y.row := by rw [Int.toNat_natCast]; exact hrd _ _ (by rw [List.getElem?_map, hy]; rfl)
        have hr2 : rs[i0 + ((IntKind.i64.wrap (((m + 1 : Nat) : Int) - 1))).toNat]? = some x.row := by rw [hwm, Int.toNat_natCast]; exact hrd _ _ (by rw [List.getElem?_map, hx]; rfl)
        have hin1 : 0 ≤ ((m + 1 : Nat) : Int) ∧ ((m + 1 : Nat) : Int) < (l.length : Int) := by omega
        have hin2 : 0 ≤ IntKind.i64.wrap (((m + 1 : Nat) : Int) - 1) ∧ IntKind.i64.wrap (((m + 1 : Nat) : Int) - 1) < (l.length : Int) := by rw [hwm]; omega
        cases hcmp : decide (y.t < x.t) with
        | true =>
          have hf : decide (ordP l) = false := by
            rw [decide_eq_false_iff_not]
            intro h
            exact h m x y hx hy (by simpa using hcmp)
          repeat' (first | dsimp only [putD, DV.cells, DH.new_next, DH.set_next, List.length_cons, List.length_nil, Nat.reduceAdd, List.set_cons_zero, List.set_cons_succ, getD_zero, getD_succ, fieldAt_zero, fieldAt_succ, thenD, blockD, retR] | (apply dwp_drawt_ab; (· exact rfl)) | apply drawt_nil | (apply drawt_pure; (· (first | exact wanted_plain rfl | (apply wanted_on; (· exact rfl); (· exact rfl); (· (with_reducible first | assumption | rfl | decide))))); (· exact rfl); (· exact rfl); (· exact opD_index rfl rfl rfl rfl rfl hin1)) | (apply drawt_pure; (· (first | exact wanted_plain rfl | (apply wanted_on; (· exact rfl); (· exact rfl); (· (with_reducible first | assumption | rfl | decide))))); (· exact rfl); (· exact rfl); (· exact opD_index rfl rfl rfl rfl rfl hin2)) | (apply drawt_read; (· (first | exact wanted_plain rfl | (apply wanted_on; (· exact rfl); (· exact rfl); (· (with_reducible first | assumption | rfl | decide))))); (· exact rfl); (· exact rfl); (· intro H' h; have h : Above _ H' := h; exact opD_load rfl rfl (h.obj hloc ho) hr1 rfl); (· intro H' h; have h : Above _ H' := h; exact opD_load rfl rfl (h.obj hloc ho) hr1 rfl)) | (apply drawt_read; (· (first | exact wanted_plain rfl | (apply wanted_on; (· exact rfl); (· exact rfl); (· (with_reducible first | assumption | rfl | decide))))); (· exact rfl); (· exact rfl); (· intro H' h; have h : Above _ H' := h; exact opD_load rfl rfl (h.obj hloc ho) hr2 rfl); (· intro H' h; have h : Above _ H' := h; exact opD_load rfl rfl (h.obj hloc ho) hr2 rfl)) | (apply drawt_pure; (· (first | exact wanted_plain rfl | (apply wanted_on; (· exact rfl); (· exact rfl); (· (with_reducible first | assumption | rfl | decide))))); (· exact rfl); (· exact rfl); (· exact rfl)) | apply dwp_seq | apply dwp_region | apply ops_nil | (apply ops_plain; (· exact rfl)) | (apply op_at; (· exact rfl)) | (apply dwp_cond_t; (· exact rfl); (· (with_reducible first | assumption | rfl | decide))) | apply dwp_block | apply dwp_skip | apply dwp_ret | (refine ⟨_, rfl, ?_⟩) | fail)
          exact ⟨by rw [hf]; rfl, hab⟩
        | false =>
          repeat' (first | dsimp only [putD, DV.cells, DH.new_next, DH.set_next, List.length_cons, List.length_nil, Nat.reduceAdd, List.set_cons_zero, List.set_cons_succ, getD_zero, getD_succ, fieldAt_zero, fieldAt_succ, thenD, blockD, retR] | (apply dwp_drawt_ab; (· exact rfl)) | apply drawt_nil | (apply drawt_pure; (· (first | exact wanted_plain rfl | (apply wanted_on; (· exact rfl); (· exact rfl); (· (with_reducible first | assumption | rfl | decide))))); (· exact rfl); (· exact rfl); (· exact opD_index rfl rfl rfl rfl rfl hin1)) | (apply drawt_pure; (· (first | exact wanted_plain rfl | (apply wanted_on; (· exact rfl); (· exact rfl); (· (with_reducible first | assumption | rfl | decide))))); (· exact rfl); (· exact rfl); (· exact opD_index rfl rfl rfl rfl rfl hin2)) | (apply drawt_read; (· (first | exact wanted_plain rfl | (apply wanted_on; (· exact rfl); (· exact rfl); (· (with_reducible first | assumption | rfl | decide))))); (· exact rfl); (· exact rfl); (· intro H' h; have h : Above _ H' := h; exact opD_load rfl rfl (h.obj hloc ho) hr1 rfl); (· intro H' h; have h : Above _ H' := h; exact opD_load rfl rfl (h.obj hloc ho) hr1 rfl)) | (apply drawt_read; (· (first | exact wanted_plain rfl | (apply wanted_on; (· exact rfl); (· exact rfl); (· (with_reducible first | assumption | rfl | decide))))); (· exact rfl); (· exact rfl); (· intro H' h; have h : Above _ H' := h; exact opD_load rfl rfl (h.obj hloc ho) hr2 rfl); (· intro H' h; have h : Above _ H' := h; exact opD_load rfl rfl (h.obj hloc ho) hr2 rfl)) | (apply drawt_pure; (· (first | exact wanted_plain rfl | (apply wanted_on; (· exact rfl); (· exact rfl); (· (with_reducible first | assumption | rfl | decide))))); (· exact rfl); (· exact rfl); (· exact rfl)) | apply dwp_seq | apply dwp_region | apply ops_nil | (apply ops_plain; (· exact rfl)) | (apply op_told; (· exact rfl); (· exact congrArg (DV.int _) hw)) | (apply op_at; (· exact rfl)) | (apply dwp_cond_t; (· exact rfl); (· (with_reducible first | assumption | rfl | decide))) | (apply dwp_cond_f; (· exact rfl); (· (with_reducible first | assumption | rfl | decide))) | apply dwp_block | apply dwp_skip | fail)
          refine ⟨⟨_, m + 1 + 1, junk_facts ⟨hab, by omega, fun i x' y' h1 h2 h3 => ?_⟩ rfl rfl⟩, ?_⟩
          · by_cases e : i = m
            · subst e
              rw [hx] at h2; rw [hy] at h3; cases h2; cases h3
              simpa using hcmp
            · exact hbef i x' y' (by omega) h2 h3
          · show l.length - ((m + 1 + 1 : Nat) : Int).toNat < l.length - ((m + 1 : Nat) : Int).toNat
            omega
      · have hc : decide ((k : Int) < (l.length : Int)) = false := by simp; omega
        have hf : decide (ordP l) = true := by
          rw [decide_eq_true_eq]
          intro i x y hx hy
          have := (List.getElem?_eq_some_iff.mp hy).1
          exact hbef i x y (by omega) hx hy
        repeat' (first | dsimp only [putD, DV.cells, DH.new_next, DH.set_next, List.length_cons, List.length_nil, Nat.reduceAdd, List.set_cons_zero, List.set_cons_succ, getD_zero, getD_succ, fieldAt_zero, fieldAt_succ, thenD, blockD, retR] | apply dwp_seq | apply dwp_region | apply ops_nil | (apply ops_plain; (· exact rfl)) | (apply op_at; (· exact rfl)) | (apply dwp_cond_f; (· exact rfl); (· (with_reducible first | assumption | rfl | decide))) | apply dwp_ret | apply dwp_exit | (refine ⟨_, rfl, ?_⟩) | fail)
        exact ⟨by rw [hf]; rfl, hab⟩
/-! ### counting -/
theorem count16 {l : List Fire} {p : Option (Nat × Nat × Nat)} {c : Nat} {ex : Bool} {H : DH} (hll : l.length ≤ 1000000000) (hs : Sl H 7 (l.map Fire.row) p) : CallWp Tryd.prog X3 16 [.sl p l.length c ex] H (fun r H' => r = .tuple [.int .i64 ((l.countP (·.fired) : Nat) : Int), .int .i64 ((l.countP (·.det) : Nat) : Int)] ∧ Above H H') := by
  refine enter rfl Tryd.func16 rfl Tryd.ntmps16 rfl ?_
  dsimp only [List.cons_append, List.nil_append, List.length_cons, List.length_nil, List.replicate_succ, List.replicate_zero, Nat.reduceAdd, Nat.reduceSub]
  repeat' (first | dsimp only [putD, DV.cells, DH.new_next, DH.set_next, List.length_cons, List.length_nil, Nat.reduceAdd, List.set_cons_zero, List.set_cons_succ, getD_zero, getD_succ, fieldAt_zero, fieldAt_succ, thenD, blockD, retR] | apply dwp_seq | apply dwp_region | apply ops_nil | (apply ops_plain; (· exact rfl)) | (apply op_at; (· exact rfl)) | apply dwp_block | fail)
  refine dwp_loop (fun st => ∃ (H1 : DH) (k : Nat), ∃ J : Nat → DV, (Above H H1 ∧ k ≤ l.length) ∧ st = ⟨[.sl p l.length c ex, J 1, .int .i64 (((l.take k).countP (·.fired) : Nat) : Int), .int .i64 (((l.take k).countP (·.det) : Nat) : Int), J 4, J 5, .sl p l.length c ex, .int .i64 (l.length : Int), .int .i64 (k : Int), J 9, J 10, J 11, J 12, J 13, J 14, J 15, J 16, J 17, J 18, J 19, J 20, J 21, J 22], H1⟩) (fun st => l.length - kOf st 8) (⟨_, 0, junk_facts (⟨Above.refl _, Nat.zero_le _⟩) rfl rfl⟩) ?_
  rintro st ⟨H1, k, J, ⟨hab, hk⟩, rfl⟩
  by_cases hlt : k < l.length
  · obtain ⟨x, hx⟩ : ∃ x, l[k]? = some x := ⟨l[k], List.getElem?_eq_getElem hlt⟩
    obtain ⟨loc, i0, ro, rs, rfl, hloc, ho, hrx⟩ := (hs.mono hab).rd (k := k) (r := x.row) (by rw [List.getElem?_map, hx]; rfl)
    have hr1 : rs[i0 + ((k : Int)).toNat]? = some x.row := by rw [Int.toNat_natCast]; exact hrx
    have hc : decide ((k : Int) < (l.length : Int)) = true := by simp [hlt]
    have hin1 : 0 ≤ (k : Int) ∧ (k : Int) < (l.length : Int) := by omega
    have hw : IntKind.i64.wrap ((k : Int) + 1) = ((k + 1 : Nat) : Int) := by rw [wrapI (by omega)]; rfl
    have htk : l.take (k + 1) = l.take k ++ [x] := by rw [List.take_add_one, hx]; rfl
    have hcF : (l.take k).countP (·.fired) ≤ k := Nat.le_trans List.countP_le_length (by rw [List.length_take]; omega)
    have hcD : (l.take k).countP (·.det) ≤ k := Nat.le_trans List.countP_le_length (by rw [List.length_take]; omega)
    have hB : Bx H1 H1 [] [] := Bx.init (fun f hf => by cases hf)
    obtain ⟨a, ha⟩ : ∃ a, (l.take k).countP (·.fired) = a := ⟨_, rfl⟩
    obtain ⟨b, hb⟩ : ∃ b, (l.take k).countP (·.det) = b := ⟨_, rfl⟩
    rw [ha] at hcF ⊢
    rw [hb] at hcD ⊢
    have hw1 : IntKind.i64.wrap ((a : Int) + 1) = ((a + 1 : Nat) : Int) := by rw [wrapI (by omega)]; rfl
    have hw2 : IntKind.i64.wrap ((b : Int) + 1) = ((b + 1 : Nat) : Int) := by rw [wrapI (by omega)]; rfl
    obtain ⟨⟨xt, xk, xw, xu⟩, xf, xd, xa⟩ := x
    cases xf with
    | true =>
      cases xd with
      | true =>
        repeat' (first | dsimp only [putD, DV.cells, DH.new_next, DH.set_next, List.length_cons, List.length_nil, Nat.reduceAdd, List.set_cons_zero, List.set_cons_succ, getD_zero, getD_succ, fieldAt_zero, fieldAt_succ, thenD, blockD, retR] | apply dwp_seq | apply dwp_region | apply ops_nil | (apply ops_plain; (· exact rfl)) | (apply op_index_at; (· exact rfl); (· exact rfl); (· exact rfl); (· with_reducible exact hin1); (· exact rfl); (· exact rfl)) | (apply op_load_at; (· exact rfl); (· exact rfl); (· exact ho); (· exact hr1); (· exact partFireR _)) | (apply op_told; (· exact rfl); (· exact congrArg (DV.int _) hw)) | (apply op_told; (· exact rfl); (· exact congrArg (DV.int _) hw1)) | (apply op_told; (· exact rfl); (· exact congrArg (DV.int _) hw2)) | (apply bx_load0; (· exact rfl); (· exact rfl); (· assumption); (· (repeat (first | with_reducible exact At.here | with_reducible apply At.there))); (· (first | exact partInj _ _ _ _ | exact partEv _ _ _ _ _ | exact partFire _ _ _ _ _ _ _ | exact rfl))) | (apply bx_store0; (· exact rfl); (· exact rfl); (· exact rfl); (· assumption); (· (first | (dsimp only [DV.cells, getD_zero, getD_succ, Sv.cells]; done) | (dsimp only [DV.cells, getD_zero, getD_succ, Sv.cells]; exact rfl) | exact rfl)); (· (repeat (first | with_reducible exact Upd.here | with_reducible apply Upd.there))); (· exact rfl); (· exact rfl); (· exact rfl); (· exact rfl); intro H1 hB) | (apply bx_alloc; (· exact rfl); (· exact zero32); (· (first | (dsimp only [DV.cells, getD_zero, getD_succ, Sv.cells]; done) | (dsimp only [DV.cells, getD_zero, getD_succ, Sv.cells]; exact rfl) | exact rfl)); (· exact rfl); (· exact rfl); (· exact rfl); (· assumption); intro b1 H1 hB) | (apply op_at; (· exact rfl)) | (apply dwp_cond_t; (· exact rfl); (· (with_reducible first | assumption | rfl | decide))) | apply dwp_block | apply dwp_skip | fail)
        refine ⟨⟨_, k + 1, junk_facts ⟨hab.trans hB.ab, by omega⟩ (by rw [htk, List.countP_append, List.countP_append, ha, hb]; rfl) rfl⟩, ?_⟩
        show l.length - ((k + 1 : Nat) : Int).toNat < l.length - (k : Int).toNat
        omega
      | false =>
        repeat' (first | dsimp only [putD, DV.cells, DH.new_next, DH.set_next, List.length_cons, List.length_nil, Nat.reduceAdd, List.set_cons_zero, List.set_cons_succ, getD_zero, getD_succ, fieldAt_zero, fieldAt_succ, thenD, blockD, retR] | apply dwp_seq | apply dwp_region | apply ops_nil | (apply ops_plain; (· exact rfl)) | (apply op_index_at; (· exact rfl); (· exact rfl); (· exact rfl); (· with_reducible exact hin1); (· exact rfl); (· exact rfl)) | (apply op_load_at; (· exact rfl); (· exact rfl); (· exact ho); (· exact hr1); (· exact partFireR _)) | (apply op_told; (· exact rfl); (· exact congrArg (DV.int _) hw)) | (apply op_told; (· exact rfl); (· exact congrArg (DV.int _) hw1)) | (apply bx_load0; (· exact rfl); (· exact rfl); (· assumption); (· (repeat (first | with_reducible exact At.here | with_reducible apply At.there))); (· (first | exact partInj _ _ _ _ | exact partEv _ _ _ _ _ | exact partFire _ _ _ _ _ _ _ | exact rfl))) | (apply bx_store0; (· exact rfl); (· exact rfl); (· exact rfl); (· assumption); (· (first | (dsimp only [DV.cells, getD_zero, getD_succ, Sv.cells]; done) | (dsimp only [DV.cells, getD_zero, getD_succ, Sv.cells]; exact rfl) | exact rfl)); (· (repeat (first | with_reducible exact Upd.here | with_reducible apply Upd.there))); (· exact rfl); (· exact rfl); (· exact rfl); (· exact rfl); intro H1 hB) | (apply bx_alloc; (· exact rfl); (· exact zero32); (· (first | (dsimp only [DV.cells, getD_zero, getD_succ, Sv.cells]; done) | (dsimp only [DV.cells, getD_zero, getD_succ, Sv.cells]; exact rfl) | exact rfl)); (· exact rfl); (· exact rfl); (· exact rfl); (· assumption); intro b1 H1 hB) | (apply op_at; (· exact rfl)) | (apply dwp_cond_t; (· exact rfl); (· (with_reducible first | assumption | rfl | decide))) | (apply dwp_cond_f; (· exact rfl); (· (with_reducible first | assumption | rfl | decide))) | apply dwp_block | apply dwp_skip | fail)
        refine ⟨⟨_, k + 1, junk_facts ⟨hab.trans hB.ab, by omega⟩ (by rw [htk, List.countP_append, List.countP_append, ha, hb]; rfl) rfl⟩, ?_⟩
        show l.length - ((k + 1 : Nat) : Int).toNat < l.length - (k : Int).toNat
        omega
    | false =>
      cases xd with
      | true =>
        repeat' (first | dsimp only [putD, DV.cells, DH.new_next, DH.set_next, List.length_cons, List.length_nil, Nat.reduceAdd, List.set_cons_zero, List.set_cons_succ, getD_zero, getD_succ, fieldAt_zero, fieldAt_succ, thenD, blockD, retR] | apply dwp_seq | apply dwp_region | apply ops_nil | (apply ops_plain; (· exact rfl)) | (apply op_index_at; (· exact rfl); (· exact rfl); (· exact rfl); (· with_reducible exact hin1); (· exact rfl); (· exact rfl)) | (apply op_load_at; (· exact rfl); (· exact rfl); (· exact ho); (· exact hr1); (· exact partFireR _)) | (apply op_told; (· exact rfl); (· exact congrArg (DV.int _) hw)) | (apply op_told; (· exact rfl); (· exact congrArg (DV.int _) hw2)) | (apply bx_load0; (· exact rfl); (· exact rfl); (· assumption); (· (repeat (first | with_reducible exact At.here | with_reducible apply At.there))); (· (first | exact partInj _ _ _ _ | exact partEv _ _ _ _ _ | exact partFire _ _ _ _ _ _ _ | exact rfl))) | (apply bx_store0; (· exact rfl); (· exact rfl); (· exact rfl); (· assumption); (· (first | (dsimp only [DV.cells, getD_zero, getD_succ, Sv.cells]; done) | (dsimp only [DV.cells, getD_zero, getD_succ, Sv.cells]; exact rfl) | exact rfl)); (· (repeat (first | with_reducible exact Upd.here | with_reducible apply Upd.there))); (· exact rfl); (· exact rfl); (· exact rfl); (· exact rfl); intro H1 hB) | (apply bx_alloc; (· exact rfl); (· exact zero32); (· (first | (dsimp only [DV.cells, getD_zero, getD_succ, Sv.cells]; done) | (dsimp only [DV.cells, getD_zero, getD_succ, Sv.cells]; exact rfl) | exact rfl)); (· exact rfl); (· exact rfl); (· exact rfl); (· assumption); intro b1 H1 hB) | (apply op_at; (· exact rfl)) | (apply dwp_cond_t; (· exact rfl); (· (with_reducible first | assumption | rfl | decide))) | (apply dwp_cond_f; (· exact rfl); (· (with_reducible first | assumption | rfl | decide))) | apply dwp_block | apply dwp_skip | fail)
        refine ⟨⟨_, k + 1, junk_facts ⟨hab.trans hB.ab, by omega⟩ (by rw [htk, List.countP_append, List.countP_append, ha, hb]; rfl) rfl⟩, ?_⟩
        show l.length - ((k + 1 : Nat) : Int).toNat < l.length - (k : Int).toNat
        omega
      | false =>
        repeat' (first | dsimp only [putD, DV.cells, DH.new_next, DH.set_next, List.length_cons, List.length_nil, Nat.reduceAdd, List.set_cons_zero, List.set_cons_succ, getD_zero, getD_succ, fieldAt_zero, fieldAt_succ, thenD, blockD, retR] | apply dwp_seq | apply dwp_region | apply ops_nil | (apply ops_plain; (· exact rfl)) | (apply op_index_at; (· exact rfl); (· exact rfl); (· exact rfl); (· with_reducible exact hin1); (· exact rfl); (· exact rfl)) | (apply op_load_at; (· exact rfl); (· exact rfl); (· exact ho); (· exact hr1); (· exact partFireR _)) | (apply op_told; (· exact rfl); (· exact congrArg (DV.int _) hw)) | (apply bx_load0; (· exact rfl); (· exact rfl); (· assumption); (· (repeat (first | with_reducible exact At.here | with_reducible apply At.there))); (· (first | exact partInj _ _ _ _ | exact partEv _ _ _ _ _ | exact partFire _ _ _ _ _ _ _ | exact rfl))) | (apply bx_store0; (· exact rfl); (· exact rfl); (· exact rfl); (· assumption); (· (first | (dsimp only [DV.cells, getD_zero, getD_succ, Sv.cells]; done) | (dsimp only [DV.cells, getD_zero, getD_succ, Sv.cells]; exact rfl) | exact rfl)); (· (repeat (first | with_reducible exact Upd.here | with_reducible apply Upd.there))); (· exact rfl); (· exact rfl); (· exact rfl); (· exact rfl); intro H1 hB) | (apply bx_alloc; (· exact rfl); (· exact zero32); (· (first | (dsimp only [DV.cells, getD_zero, getD_succ, Sv.cells]; done) | (dsimp only [DV.cells, getD_zero, getD_succ, Sv.cells]; exact rfl) | exact rfl)); (· exact rfl); (· exact rfl); (· exact rfl); (· assumption); intro b1 H1 hB) | (apply op_at; (· exact rfl)) | (apply dwp_cond_t; (· exact rfl); (· (with_reducible first | assumption | rfl | decide))) | (apply dwp_cond_f; (· exact rfl); (· (with_reducible first | assumption | rfl | decide))) | apply dwp_block | apply dwp_skip | fail)
        refine ⟨⟨_, k + 1, junk_facts ⟨hab.trans hB.ab, by omega⟩ (by rw [htk, List.countP_append, List.countP_append, ha, hb]; rfl) rfl⟩, ?_⟩
        show l.length - ((k + 1 : Nat) : Int).toNat < l.length - (k : Int).toNat
        omega
  · have hc : decide ((k : Int) < (l.length : Int)) = false := by simp; omega
    have e : l.take k = l := List.take_of_length_le (by omega)
    rw [e]
    repeat' (first | dsimp only [putD, DV.cells, DH.new_next, DH.set_next, List.length_cons, List.length_nil, Nat.reduceAdd, List.set_cons_zero, List.set_cons_succ, getD_zero, getD_succ, fieldAt_zero, fieldAt_succ, thenD, blockD, retR] | apply dwp_seq | apply dwp_region | apply ops_nil | (apply ops_plain; (· exact rfl)) | (apply op_at; (· exact rfl)) | (apply dwp_cond_f; (· exact rfl); (· (with_reducible first | assumption | rfl | decide))) | apply dwp_ret | apply dwp_exit | (refine ⟨_, rfl, ?_⟩) | fail)
    exact ⟨rfl, hab⟩
end Go.Det.C

/- Cover: a report's text. -/
namespace Go.Det.C
open Go Go.Det Go.Proofs
set_option maxRecDepth 4000
set_option maxHeartbeats 4000000
set_option linter.unusedVariables false
set_option linter.unusedSimpArgs false
/-! ### a builder in boxes -/
theorem bx_del {A H : DH} {i : Nat} {o : DObj} {bs : List (Nat × DObj)} {fs : List (DH → Prop)} (h : Bx A H ((i, o) :: bs) fs) : Bx A (H.set i none) bs fs := by
  have hi := h.obj _ List.mem_cons_self
  have hnd := h.nd
  rw [List.map_cons, List.nodup_cons] at hnd
  have hne : ∀ b ∈ bs, b.1 ≠ i := fun b hb e => hnd.1 (by show i ∈ _; rw [← e]; exact List.mem_map_of_mem (f := fun x : Nat × DObj => x.1) hb)
  refine ⟨h.ab.set hi.1 _, fun b hb => ?_, hnd.2, fun f hf => ?_⟩
  · obtain ⟨h1, h2, h3⟩ := h.obj b (List.mem_cons_of_mem _ hb)
    refine ⟨h1, h2, ?_⟩
    show (if b.1 = i then none else H.obj b.1) = _
    rw [if_neg (hne b hb)]; exact h3
  · obtain ⟨S, h1, h2, h3, h4⟩ := (h.fact f hf).ex
    refine ⟨S, h1, h1 H _ (Nat.le_refl _) (fun l hl => ?_) h2, h3, fun b hb => h4 b (List.mem_cons_of_mem _ hb)⟩
    show (if l = i then none else H.obj l) = _
    rw [if_neg (fun e => h4 (i, o) List.mem_cons_self (by rw [← e]; exact hl))]
theorem bx_allocB2 {X : Ext} {o : Oper} {env : List DV} {K : DV → DH → Prop} {A H : DH} {bs : List (Nat × DObj)} {fs : List (DH → Prop)} {ex : Bool} (ho : o.op = .alloc bldT) (hz : zeroT Tryd.prog bldT = some (.agg [.ptr none, .sl none 0 0 ex])) (hB : Bx A H bs fs)
    (hk : ∀ b H', Bx A H' ((b, .lib (.bld false none 0)) :: bs) fs → K (.ptr (some (b, 0, 0))) H') : OpWp Tryd.prog X o env H K := bx_allocB (z := undefD) ho hz hB hk
def BldB (l : Nat) (acc : List UInt8) (bx : List (Nat × DObj)) : Prop := (acc = [] ∧ bx = [(l, .lib (.bld false none 0))]) ∨ ∃ j, acc ≠ [] ∧ bx = [(j, .lib (.hid acc)), (l, .lib (.bld true (some j) acc.length))]
section
variable {X : Ext} {A H : DH} {fs : List (DH → Prop)} {K : DV → DH → Prop}
theorem bld_write (hX : X 38 = some gWrite) {l : Nat} {acc s : List UInt8} {bx pre : List (Nat × DObj)} (hb : BldB l acc bx) (hB : Bx A H (pre ++ bx) fs) (hs : 0 < s.length) (hlen : acc.length + s.length ≤ 100000000)
    (hK : ∀ bx' H', BldB l (acc ++ s) bx' → Bx A H' (pre ++ bx') fs → K (.tuple [.int .i64 (s.length : Int), .nilIface]) H') : CallWp Tryd.prog X 38 [.ptr (some (l, 0, 0)), .str s] H K := by
  have hne : acc ++ s ≠ [] := by intro e; have := congrArg List.length e; rw [List.length_append, List.length_nil] at this; omega
  rcases hb with ⟨rfl, rfl⟩ | ⟨j, h1, rfl⟩
  · have hB1 := hB.perm List.perm_append_comm
    have ho : H.obj l = some (.lib (.bld false none 0)) := (hB1.obj _ List.mem_cons_self).2.2
    refine call_table (g := gWrite) hX (r := .tuple [.int .i64 (s.length : Int), .nilIface]) (H' := (H.new (.lib (.hid s))).set l (some (.lib (.bld true (some H.next) s.length)))) ?_ ?_
    · simp only [gWrite, ho]
      rw [if_pos ⟨hs, by simpa using hlen⟩]
    · refine hK [(H.next, .lib (.hid s)), (l, .lib (.bld true (some H.next) s.length))] _ (.inr ⟨H.next, hne, rfl⟩) ?_
      have h2 := (hB1.box (.lib (.hid s))).put (b := l) (o := .lib (.bld false none 0)) (o' := .lib (.bld true (some H.next) s.length)) (.there .here)
      exact h2.perm (List.perm_append_comm (l₁ := [_, _]))
  · have hB1 := hB.perm List.perm_append_comm
    have ho : H.obj l = some (.lib (.bld true (some j) acc.length)) := (hB1.obj _ (List.mem_cons_of_mem _ List.mem_cons_self)).2.2
    have hj : H.obj j = some (.lib (.hid acc)) := (hB1.obj _ List.mem_cons_self).2.2
    refine call_table (g := gWrite) hX (r := .tuple [.int .i64 (s.length : Int), .nilIface]) (H' := ((H.set j none).new (.lib (.hid (acc ++ s)))).set l (some (.lib (.bld true (some H.next) (acc.length + s.length))))) ?_ ?_
    · simp only [gWrite, ho, hj]
      rw [if_pos ⟨trivial, hs, hlen⟩]
    · refine hK [(H.next, .lib (.hid (acc ++ s))), (l, .lib (.bld true (some H.next) (acc ++ s).length))] _ (.inr ⟨H.next, hne, rfl⟩) ?_
      rw [List.length_append]
      have h2 := ((bx_del hB1).box (.lib (.hid (acc ++ s)))).put (b := l) (o := .lib (.bld true (some j) acc.length)) (o' := .lib (.bld true (some H.next) (acc.length + s.length))) (.there .here)
      exact h2.perm (List.perm_append_comm (l₁ := [_, _]))
theorem bld_str (hX : X 42 = some gStr) {l : Nat} {acc : List UInt8} {bx : List (Nat × DObj)} (hb : BldB l acc bx) (hne : acc ≠ []) (hB : Bx A H bx fs) (hK : ∀ H', Above A H' → K (.str acc) H') : CallWp Tryd.prog X 42 [.ptr (some (l, 0, 0))] H K := by
  rcases hb with ⟨rfl, rfl⟩ | ⟨j, h1, rfl⟩
  · exact absurd rfl hne
  · have ho : H.obj l = some (.lib (.bld true (some j) acc.length)) := (hB.obj _ (List.mem_cons_of_mem _ List.mem_cons_self)).2.2
    have hj : H.obj j = some (.lib (.hid acc)) := (hB.obj _ List.mem_cons_self).2.2
    refine call_table (g := gStr) hX (r := .str acc) (H' := H.set j none) ?_ (hK _ (bx_del hB).ab)
    simp only [gStr, ho, hj]
    rw [if_pos ⟨trivial, hne⟩]
end
/-! ### words -/
def faultL : List (List UInt8) := [[], [115, 105, 108, 101, 110, 99, 101], [99, 111, 114, 114, 117, 112, 116], [99, 117, 116], [98, 97, 98, 98, 108, 101], [99, 114, 97, 115, 104]]
def faultF (k : Int) : List UInt8 := (faultL[k.toNat]?).getD []
theorem zero76 : zeroT Tryd.prog 76 = some (.agg [.str [], .str [], .str [], .str [], .str [], .str []]) := by kernel_rfl
theorem zero70 : zeroT Tryd.prog bldT = some (.agg [.ptr none, .sl none 0 0 true]) := by kernel_rfl
theorem partW (a b c d e f : DV) : partD Tryd.prog 76 [a, b, c, d, e, f] 0 = some (.agg [a, b, c, d, e, f]) := rfl
theorem words40 (H : DH) : CallWp Tryd.prog X3 40 [] H (fun r H' => r = .agg (faultL.map .str) ∧ Above H H') := by
  have hB : Bx H H [] [] := Bx.init (fun f hf => by cases hf)
  refine enter rfl Tryd.func40 rfl Tryd.ntmps40 rfl ?_
  dsimp only [List.cons_append, List.nil_append, List.length_cons, List.length_nil, List.replicate_succ, List.replicate_zero, Nat.reduceAdd, Nat.reduceSub]
  repeat' (first | dsimp only [putD, DV.cells, DH.new_next, DH.set_next, List.length_cons, List.length_nil, Nat.reduceAdd, List.set_cons_zero, List.set_cons_succ, getD_zero, getD_succ, fieldAt_zero, fieldAt_succ, thenD, blockD, retR] | apply dwp_seq | apply dwp_region | apply ops_nil | (apply ops_plain; (· exact rfl)) | (apply bx_store0; (· exact rfl); (· exact rfl); (· exact rfl); (· assumption); (· (first | (dsimp only [DV.cells, getD_zero, getD_succ, Sv.cells]; done) | (dsimp only [DV.cells, getD_zero, getD_succ, Sv.cells]; exact rfl) | exact rfl)); (· (repeat (first | with_reducible exact Upd.here | with_reducible apply Upd.there))); (· exact rfl); (· exact rfl); (· exact rfl); (· exact rfl); intro H1 hB) | (apply bx_alloc; (· exact rfl); (· exact zero76); (· (first | (dsimp only [DV.cells, getD_zero, getD_succ, Sv.cells]; done) | (dsimp only [DV.cells, getD_zero, getD_succ, Sv.cells]; exact rfl) | exact rfl)); (· exact rfl); (· exact rfl); (· exact rfl); (· assumption); intro b1 H1 hB) | (apply op_at; (· exact rfl)) | apply dwp_ret | fail)
  refine ⟨_, resOf_c (loadD_at rfl (Bx.get (by assumption) At.here) rfl (partW _ _ _ _ _ _)), ?_⟩
  exact ⟨rfl, hB.ab⟩
theorem et22 : ElemT Tryd.prog 22 30 4 32 (.agg [.int .i64 0, .int .i64 0, .int .i64 0, .int .i64 0]) := ⟨rfl, rfl, rfl, by kernel_rfl, by decide, by decide, rfl, rfl⟩
theorem opD_word {cf : CallF} {o : Oper} {env : List DV} {H : DH} {x i : Operand} {k : Int} (ho : o.op = .index 76 x i) (hx : evalO env x = some (.agg (faultL.map .str))) (hi : evalO env i = some (.int .i64 k)) (hk : 1 ≤ k ∧ k ≤ 5) : opD Tryd.prog cf o env H = some (.str (faultF k), H) := by
  have e : indexD Tryd.prog 76 (.agg (faultL.map .str)) (.int .i64 k) = some (.str (faultF k)) := by
    have : k = 1 ∨ k = 2 ∨ k = 3 ∨ k = 4 ∨ k = 5 := by omega
    rcases this with rfl | rfl | rfl | rfl | rfl <;> rfl
  simp only [opD, ho, mover, reader, pureD, hx, hi, e]
  rfl
theorem partInjF (f : Fire) : partD Tryd.prog 30 f.row 0 = some (.agg f.x.row) := rfl
def cameF (f : Fire) : List UInt8 := if f.det then (if f.fired then [32, 102, 105, 114, 101, 100] else [32, 105, 100, 108, 101]) ++ ([32, 97, 116, 32] ++ ptextF f.at') else if f.fired then [32, 102, 105, 114, 101, 100] else [32, 105, 100, 108, 101]
def lineF (f : Fire) : List UInt8 := faultF f.x.k ++ [32] ++ decF f.x.w ++ [32] ++ ptextF f.x.t ++ cameF f ++ [10]
def tailF (l : List Fire) : List UInt8 := decF (l.countP (·.fired) : Nat) ++ [32, 111, 102, 32] ++ decF (l.length : Nat) ++ [32, 100, 101, 116, 101, 99, 116, 101, 100, 32] ++ decF (l.countP (·.det) : Nat) ++ [10]
def textL (l : List Fire) : List UInt8 := l.flatMap lineF ++ tailF l
/-- Its times are told as texts. -/
structure GoodF (f : Fire) : Prop where
  x : offF f.x = false
  t : -1152921504606846977 < f.x.t ∧ f.x.t < 1152921504606846977
  a : -1152921504606846977 < f.at' ∧ f.at' < 1152921504606846977
theorem ptextF_len {t : Int} (h : -1152921504606846977 < t ∧ t < 1152921504606846977) : (ptextF t).length ≤ 25 := by
  have hd : (decN (t.natAbs / (pickU t.natAbs).1)).length ≤ 19 := decN_len 18 _ (Nat.lt_of_le_of_lt (Nat.div_le_self _ _) (by omega))
  have h2 : (pickU t.natAbs).2.length ≤ 2 := by
    unfold pickU
    repeat' split
    all_goals decide
  have h3 : (sgnF t).length ≤ 1 := by
    unfold sgnF
    split <;> decide
  unfold ptextF
  rw [List.length_append, List.length_append]
  omega
theorem decF_len {n : Int} (h0 : 0 ≤ n) (h1 : n < 1000000000) : (decF n).length ≤ 18 := by
  unfold decF
  rw [if_neg (by omega)]
  exact decN_len 17 _ (by omega)
theorem faultF_len (k : Int) : (faultF k).length ≤ 7 := by
  unfold faultF
  cases h : faultL[k.toNat]? with
  | none => simp
  | some x =>
    have hm := List.mem_of_getElem? h
    simp only [faultL, List.mem_cons, List.not_mem_nil, or_false] at hm
    rcases hm with rfl | rfl | rfl | rfl | rfl | rfl <;> decide
theorem cameF_len {f : Fire} (h : (ptextF f.at').length ≤ 25) : (cameF f).length ≤ 35 := by
  unfold cameF
  repeat' split
  all_goals simp only [List.length_append, List.length_cons, List.length_nil]; omega
theorem lineF_len {f : Fire} (h : GoodF f) (hw : 0 ≤ f.x.w ∧ f.x.w < 16) : 0 < (lineF f).length ∧ (lineF f).length ≤ 100 := by
  have h1 := ptextF_len h.t
  have h2 := cameF_len (ptextF_len h.a)
  have h3 := faultF_len f.x.k
  have h4 := decF_len hw.1 (by omega)
  unfold lineF
  simp only [List.length_append, List.length_cons, List.length_nil]
  omega
theorem offF_k {x : Inj} (h : offF x = false) : 1 ≤ x.k ∧ x.k ≤ 5 ∧ 0 ≤ x.w ∧ x.w < 16 := by
  unfold offF at h
  simp only [Bool.or_eq_false_iff, decide_eq_false_iff_not] at h
  obtain ⟨h1, h2, h3, h4, _⟩ := h
  have : x.w < 16 := by
    split at h4 <;> omega
  omega
theorem tab_one {x : Inj} (h : offF x = false) : tabOk [x] = true := by
  unfold tabOk
  simp [h, sortedB]
end Go.Det.C

/- Cover: a report's text. -/
namespace Go.Det.C
open Go Go.Det Go.Proofs
set_option maxRecDepth 4000
set_option maxHeartbeats 4000000
set_option linter.unusedVariables false
set_option linter.unusedSimpArgs false
def goodB (f : Fire) : Bool := !offF f.x && fitB f.at'
def textR (l : List Fire) : DV := if l.all goodB = true then .tuple [.str (textL l), .int .i64 0] else .tuple [.str [], .int .i64 1]
theorem textR_bad {l : List Fire} {i : Nat} {f : Fire} (hf : l[i]? = some f) (h : goodB f = false) : textR l = .tuple [.str [], .int .i64 1] := by
  unfold textR
  rw [if_neg]
  intro hall
  rw [List.all_eq_true] at hall
  rw [hall f (List.mem_of_getElem? hf)] at h
  cases h
theorem fit_bounds {t : Int} (h : fitB t = true) : -1152921504606846977 < t ∧ t < 1152921504606846977 := by
  unfold fitB at h
  simp at h
  omega
theorem offF_fit {x : Inj} (h : offF x = false) : fitB x.t = true := by
  unfold offF at h
  simp only [Bool.or_eq_false_iff, Bool.not_eq_false', List.all_cons, List.all_nil, Bool.and_true, Bool.and_eq_true] at h
  exact h.2.2.2.2.2.2.1.1
theorem good_of {f : Fire} (h1 : offF f.x = false) (h2 : fitB f.at' = true) : GoodF f := ⟨h1, fit_bounds (offF_fit h1), fit_bounds h2⟩
theorem tab_bad {x : Inj} (h : offF x = true) : tabOk [x] = false := by
  unfold tabOk
  simp [h]
theorem ptext39_bad {t : Int} (ht : fitB t = false) (H : DH) : CallWp Tryd.prog X3 39 [.int .i64 t] H (fun r H' => r = .tuple [.str [], .int .i64 1] ∧ Above H H') := by
  have hB : Bx H H [] [] := Bx.init (fun f hf => by cases hf)
  have hal : (!([t].all fitB)) = true := by simp [ht]
  refine enter rfl Tryd.func39 rfl Tryd.ntmps39 rfl ?_
  dsimp only [List.cons_append, List.nil_append, List.length_cons, List.length_nil, List.replicate_succ, List.replicate_zero, Nat.reduceAdd, Nat.reduceSub]
  repeat' (first | dsimp only [putD, DV.cells, DH.new_next, DH.set_next, List.length_cons, List.length_nil, Nat.reduceAdd, List.set_cons_zero, List.set_cons_succ, getD_zero, getD_succ, fieldAt_zero, fieldAt_succ, thenD, blockD, retR] | apply dwp_seq | apply dwp_region | apply ops_nil | (apply ops_plain; (· exact rfl)) | (apply op_call; (· exact rfl); (· exact rfl); (· exact rfl); (refine (CallWp.up up13' (may69e (.one (Bx.get (by assumption) At.here)))).mono ?_; rintro r H' ⟨rfl, rfl⟩)) | (apply bx_buildL et112'; (· exact rfl); (· exact rfl); (· exact rfl); (· decide); (· assumption); intro bn H1 hB) | (apply op_at; (· exact rfl)) | (apply dwp_cond_t; (· exact rfl); (· (with_reducible first | assumption | rfl | decide))) | apply dwp_ret | (refine ⟨_, rfl, ?_⟩) | fail)
  exact ⟨rfl, hB.ab⟩
theorem text18g {X : Ext} {Bd : Int} {l : List Fire} {p : Option (Nat × Nat × Nat)} {c : Nat} {ex : Bool} {H : DH} (h18 : X 18 = none) (hup : ExtLe X3 X) (hW : X 38 = some gWrite) (hS : X 42 = some gStr) (hBd : 16 ≤ Bd)
    (hI : ∀ (n : Int) (H' : DH), 0 ≤ n → n < Bd → Above H H' → CallWp Tryd.prog X 41 [.int .i64 n] H' (fun r H2 => r = .str (decF n) ∧ H2 = H')) (hll : l.length ≤ 100000) (hlB : (l.length : Int) < Bd) (hs : Sl H 7 (l.map Fire.row) p) :
    CallWp Tryd.prog X 18 [.sl p l.length c ex] H (fun r H' => r = textR l ∧ Above H H') := by
  have hB : Bx H H [] [] := Bx.init (fun f hf => by cases hf)
  refine enter h18 Tryd.func18 rfl Tryd.ntmps18 rfl ?_
  dsimp only [List.cons_append, List.nil_append, List.length_cons, List.length_nil, List.replicate_succ, List.replicate_zero, Nat.reduceAdd, Nat.reduceSub]
  repeat' (first | dsimp only [putD, DV.cells, DH.new_next, DH.set_next, List.length_cons, List.length_nil, Nat.reduceAdd, List.set_cons_zero, List.set_cons_succ, getD_zero, getD_succ, fieldAt_zero, fieldAt_succ, thenD, blockD, retR] | apply dwp_seq | apply dwp_region | apply ops_nil | (apply ops_plain; (· exact rfl)) | (apply bx_allocB2; (· exact rfl); (· exact zero70); (· assumption); intro bb H1 hB) | (apply op_at; (· exact rfl)) | apply dwp_block | fail)
  refine dwp_loop (fun st => ∃ (H1 : DH) (i : Nat) (bx : List (Nat × DObj)) (acc : List UInt8), ∃ J : Nat → DV, (Bx H H1 bx [] ∧ i ≤ l.length ∧ BldB bb acc bx ∧ acc = (l.take i).flatMap lineF ∧ acc.length ≤ 100 * i ∧ ∀ f ∈ l.take i, goodB f = true) ∧ st = ⟨(.sl p l.length c ex :: J 1 :: J 2 :: J 3 :: .ptr (some (bb, 0, 0)) :: .func (.func 38) [.ptr (some (bb, 0, 0))] [] :: J 6 :: J 7 :: J 8 :: J 9 :: J 10 :: J 11 :: J 12 :: J 13 :: J 14 :: J 15 :: .sl p l.length c ex :: .int .i64 (l.length : Int) :: .int .i64 (i : Int) :: J 19 :: J 20 :: J 21 :: J 22 :: J 23 :: J 24 :: J 25 :: J 26 :: J 27 :: J 28 :: J 29 :: J 30 :: J 31 :: J 32 :: J 33 :: J 34 :: J 35 :: J 36 :: J 37 :: J 38 :: J 39 :: J 40 :: J 41 :: J 42 :: J 43 :: J 44 :: J 45 :: J 46 :: J 47 :: J 48 :: J 49 :: J 50 :: J 51 :: J 52 :: J 53 :: J 54 :: J 55 :: J 56 :: J 57 :: J 58 :: J 59 :: J 60 :: J 61 :: J 62 :: J 63 :: J 64 :: J 65 :: J 66 :: J 67 :: J 68 :: J 69 :: J 70 :: J 71 :: J 72 :: J 73 :: J 74 :: J 75 :: J 76 :: J 77 :: J 78 :: J 79 :: J 80 :: J 81 :: J 82 :: J 83 :: J 84 :: J 85 :: J 86 :: J 87 :: J 88 :: J 89 :: J 90 :: J 91 :: J 92 :: J 93 :: []), H1⟩) (fun st => l.length - kOf st 18) (⟨_, 0, _, [], junk_facts (⟨hB, Nat.zero_le _, .inl ⟨rfl, rfl⟩, rfl, Nat.le_refl _, by simp⟩) rfl rfl⟩) ?_
  rintro st ⟨H1, i, bx, acc, J, ⟨hB, hi, hb, hacc, hal, hgd⟩, rfl⟩
  by_cases hlt : i < l.length
  · obtain ⟨f, hf⟩ : ∃ f, l[i]? = some f := ⟨l[i], List.getElem?_eq_getElem hlt⟩
    obtain ⟨loc, i0, ro, rs, rfl, hloc, ho, hrx⟩ := hs.rd (k := i) (r := f.row) (by rw [List.getElem?_map, hf]; rfl)
    have hr1 : rs[i0 + ((i : Int)).toNat]? = some f.row := by rw [Int.toNat_natCast]; exact hrx
    have hc : decide ((i : Int) < (l.length : Int)) = true := by simp [hlt]
    have hin1 : 0 ≤ (i : Int) ∧ (i : Int) < (l.length : Int) := by omega
    have hw : IntKind.i64.wrap ((i : Int) + 1) = ((i + 1 : Nat) : Int) := by rw [wrapI (by omega)]; rfl
    cases hof : offF f.x with
    | true =>
      have htab0 := tab_bad hof
      have hrb := textR_bad hf (by unfold goodB; rw [hof]; rfl)
      repeat' (first | dsimp only [putD, DV.cells, DH.new_next, DH.set_next, List.length_cons, List.length_nil, Nat.reduceAdd, List.set_cons_zero, List.set_cons_succ, getD_zero, getD_succ, fieldAt_zero, fieldAt_succ, thenD, blockD, retR] | apply dwp_seq | apply dwp_region | apply ops_nil | (apply ops_plain; (· exact rfl)) | (apply op_call; (· exact rfl); (· exact rfl); (· exact rfl); (refine CallWp.up hup ((check20 (l := [f.x]) (by simp) (.at (hB.obj _ List.mem_cons_self).2.1 (hB.get At.here) (Nat.le_refl _) rfl)).mono ?_); rintro r H' ⟨rfl, hab⟩; replace hB := hB.grow hab; simp only [htab0, Bool.false_eq_true, if_false])) | (apply op_index_at; (· exact rfl); (· exact rfl); (· exact rfl); (· with_reducible exact hin1); (· exact rfl); (· exact rfl)) | (apply op_load_at; (· exact rfl); (· exact rfl); (· exact hB.ab.obj hloc ho); (· exact hr1); (· exact partFireR f)) | (apply bx_buildL et22; (· exact rfl); (· exact rfl); (· exact rfl); (· decide); (· assumption); intro bk H1 hB) | (apply bx_load0; (· exact rfl); (· exact rfl); (· assumption); (· (repeat (first | with_reducible exact At.here | with_reducible apply At.there))); (· (first | exact partFireR _ | exact partInjF _ | exact rfl))) | (apply bx_store0; (· exact rfl); (· exact rfl); (· exact rfl); (· assumption); (· (first | (dsimp only [DV.cells, getD_zero, getD_succ, Sv.cells]; done) | (dsimp only [DV.cells, getD_zero, getD_succ, Sv.cells]; exact rfl) | exact rfl)); (· (repeat (first | with_reducible exact Upd.here | with_reducible apply Upd.there))); (· exact rfl); (· exact rfl); (· exact rfl); (· exact rfl); intro H1 hB) | (apply bx_alloc; (· exact rfl); (· exact zero32); (· (first | (dsimp only [DV.cells, getD_zero, getD_succ, Sv.cells]; done) | (dsimp only [DV.cells, getD_zero, getD_succ, Sv.cells]; exact rfl) | exact rfl)); (· exact rfl); (· exact rfl); (· exact rfl); (· assumption); intro b7 H1 hB) | (apply op_at; (· exact rfl)) | (apply dwp_cond_t; (· exact rfl); (· (with_reducible first | assumption | rfl | decide))) | apply dwp_block | apply dwp_skip | apply dwp_ret | (refine ⟨_, rfl, ?_⟩) | fail)
      exact ⟨by rw [hrb]; rfl, hB.ab⟩
    | false =>
      have hgt := fit_bounds (offF_fit hof)
      have htab := tab_one hof
      cases hfa : fitB f.at' with
      | false =>
        have hrb := textR_bad hf (by unfold goodB; rw [hof, hfa]; rfl)
        repeat' (first | dsimp only [putD, DV.cells, DH.new_next, DH.set_next, List.length_cons, List.length_nil, Nat.reduceAdd, List.set_cons_zero, List.set_cons_succ, getD_zero, getD_succ, fieldAt_zero, fieldAt_succ, thenD, blockD, retR] | apply dwp_seq | apply dwp_region | apply ops_nil | (apply ops_plain; (· exact rfl)) | (apply ops_on; (· exact rfl); (· exact rfl); (· (with_reducible first | assumption | rfl | decide))) | (apply op_call; (· exact rfl); (· exact rfl); (· exact rfl); (refine CallWp.up hup ((check20 (l := [f.x]) (by simp) (.at (hB.obj _ List.mem_cons_self).2.1 (hB.get At.here) (Nat.le_refl _) rfl)).mono ?_); rintro r H' ⟨rfl, hab⟩; replace hB := hB.grow hab; simp only [htab, if_true])) | (apply op_call; (· exact rfl); (· exact rfl); (· exact rfl); (refine CallWp.up hup (ptext39 hgt (by assumption) ?_); intro H1 hB)) | (apply op_call; (· exact rfl); (· exact rfl); (· exact rfl); (refine CallWp.up hup ((ptext39_bad hfa _).mono ?_); rintro r H' ⟨rfl, hab⟩; replace hB := hB.grow hab)) | (apply op_pick_f; (· exact rfl); (· exact rfl); (· (with_reducible first | assumption | rfl | decide)); (· exact rfl)) | (apply op_index_at; (· exact rfl); (· exact rfl); (· exact rfl); (· with_reducible exact hin1); (· exact rfl); (· exact rfl)) | (apply op_load_at; (· exact rfl); (· exact rfl); (· exact hB.ab.obj hloc ho); (· exact hr1); (· exact partFireR f)) | (apply bx_buildL et22; (· exact rfl); (· exact rfl); (· exact rfl); (· decide); (· assumption); intro bk H1 hB) | (apply bx_load0; (· exact rfl); (· exact rfl); (· assumption); (· (repeat (first | with_reducible exact At.here | with_reducible apply At.there))); (· (first | exact partFireR _ | exact partInjF _ | exact rfl))) | (apply bx_store0; (· exact rfl); (· exact rfl); (· exact rfl); (· assumption); (· (first | (dsimp only [DV.cells, getD_zero, getD_succ, Sv.cells]; done) | (dsimp only [DV.cells, getD_zero, getD_succ, Sv.cells]; exact rfl) | exact rfl)); (· (repeat (first | with_reducible exact Upd.here | with_reducible apply Upd.there))); (· exact rfl); (· exact rfl); (· exact rfl); (· exact rfl); intro H1 hB) | (apply bx_alloc; (· exact rfl); (· exact zero32); (· (first | (dsimp only [DV.cells, getD_zero, getD_succ, Sv.cells]; done) | (dsimp only [DV.cells, getD_zero, getD_succ, Sv.cells]; exact rfl) | exact rfl)); (· exact rfl); (· exact rfl); (· exact rfl); (· assumption); intro b7 H1 hB) | (apply op_at; (· exact rfl)) | (apply dwp_cond_t; (· exact rfl); (· (with_reducible first | assumption | rfl | decide))) | (apply dwp_cond_f; (· exact rfl); (· (with_reducible first | assumption | rfl | decide))) | apply dwp_block | apply dwp_skip | apply dwp_ret | (refine ⟨_, rfl, ?_⟩) | fail)
        exact ⟨by rw [hrb]; rfl, hB.ab⟩
      | true =>
        have hgf := good_of hof hfa
        have hgB : goodB f = true := by unfold goodB; rw [hof, hfa]; rfl
        have hgt := hgf.t
        have hga := hgf.a
        obtain ⟨hk1, hk2, hw1, hw2⟩ := offF_k hgf.x
        have hk15 : 1 ≤ f.x.k ∧ f.x.k ≤ 5 := ⟨hk1, hk2⟩
        have hwB : f.x.w < Bd := by omega
        have htab := tab_one hgf.x
        have hacc' : acc ++ lineF f = (l.take (i + 1)).flatMap lineF := by rw [List.take_add_one, hf, List.flatMap_append, ← hacc]; simp
        obtain ⟨hl0, hl1⟩ := lineF_len hgf ⟨hw1, hw2⟩
        have hlw : acc.length + (lineF f).length ≤ 100000000 := by omega
        have p1 := ptextF_len hgf.t
        have p2 := ptextF_len hgf.a
        have p3 := faultF_len f.x.k
        have p4 := decF_len hw1 (by omega)

        have hgd' : ∀ g ∈ l.take (i + 1), goodB g = true := by
          rw [List.take_add_one, hf]
          intro g hg
          rcases List.mem_append.mp hg with h | h
          · exact hgd g h
          · simp at h; rw [h]; exact hgB
        cases hfi : f.fired with
        | true =>
          cases hde : f.det with
          | true =>
            have hcm : cameF f = [32, 102, 105, 114, 101, 100] ++ ([32, 97, 116, 32] ++ ptextF f.at') := by unfold cameF; rw [hfi, hde]; rfl
            have hln : faultF f.x.k ++ [32] ++ decF f.x.w ++ [32] ++ ptextF f.x.t ++ ([32, 102, 105, 114, 101, 100] ++ ([32, 97, 116, 32] ++ ptextF f.at')) ++ [10] = lineF f := by unfold lineF; rw [hcm]
            repeat' (first | dsimp only [putD, DV.cells, DH.new_next, DH.set_next, List.length_cons, List.length_nil, Nat.reduceAdd, List.set_cons_zero, List.set_cons_succ, getD_zero, getD_succ, fieldAt_zero, fieldAt_succ, thenD, blockD, retR] | (refine dwp_drawr _ rfl (fun H' => Above H H' ∧ H'.obj b7 = some (.rows false 7 [f.row])) ⟨hB.ab, (show Bx H _ ((b7, .rows false 7 [f.row]) :: bx) [] from hB.drop1).get At.here⟩ ?_; have hBb : Bx H _ ((b7, .rows false 7 [f.row]) :: bx) [] := hB.drop1; replace hB := hBb) | apply drawr_nil | (apply drawr_read; (· (first | exact wanted_plain rfl | (apply wanted_on; (· exact rfl); (· exact rfl); (· (with_reducible first | assumption | rfl | decide))))); (· exact rfl); (· exact rfl); (· intro H' h; exact opD_load rfl rfl h.2 rfl (by (first | exact partFireR _ | exact partInjF _ | exact rfl)))) | (apply drawr_pure; (· (first | exact wanted_plain rfl | (apply wanted_on; (· exact rfl); (· exact rfl); (· (with_reducible first | assumption | rfl | decide))))); (· exact rfl); (· exact rfl); (· exact opD_word rfl rfl rfl hk15)) | (apply drawr_pure; (· (first | exact wanted_plain rfl | (apply wanted_on; (· exact rfl); (· exact rfl); (· (with_reducible first | assumption | rfl | decide))))); (· exact rfl); (· exact rfl); (· exact opD_strAdd rfl rfl rfl (by simp only [List.length_append, List.length_cons, List.length_nil]; omega))) | (apply drawr_pure; (· (first | exact wanted_plain rfl | (apply wanted_on; (· exact rfl); (· exact rfl); (· (with_reducible first | assumption | rfl | decide))))); (· exact rfl); (· exact rfl); (· exact rfl)) | (apply drawr_move; (· (first | exact wanted_plain rfl | (apply wanted_on; (· exact rfl); (· exact rfl); (· (with_reducible first | assumption | rfl | decide))))); (· exact rfl)) | apply dwp_seq | apply dwp_region | apply ops_nil | (apply ops_plain; (· exact rfl)) | (apply ops_on; (· exact rfl); (· exact rfl); (· (with_reducible first | assumption | rfl | decide))) | (apply op_call; (· exact rfl); (· exact rfl); (· exact rfl); (refine CallWp.up hup ((check20 (l := [f.x]) (by simp) (.at (hB.obj _ List.mem_cons_self).2.1 (hB.get At.here) (Nat.le_refl _) rfl)).mono ?_); rintro r H' ⟨rfl, hab⟩; replace hB := hB.grow hab; simp only [htab, if_true])) | (apply op_call; (· exact rfl); (· exact rfl); (· exact rfl); (refine CallWp.up hup (ptext39 hgt (by assumption) ?_); intro H1 hB)) | (apply op_call; (· exact rfl); (· exact rfl); (· exact rfl); (refine CallWp.up hup (ptext39 hga (by assumption) ?_); intro H1 hB)) | (apply op_call; (· exact rfl); (· exact rfl); (· exact rfl); ((refine CallWp.up hup ((words40 _).mono ?_); rintro r H' ⟨rfl, hab⟩; replace hB := hB.grow hab); refine ⟨⟨hB.ab, hB.get At.here⟩, ?_⟩)) | (apply op_call; (· exact rfl); (· exact rfl); (· exact rfl); ((refine (hI _ _ (by first | exact hw1 | omega) (by first | exact hwB | omega) hB.ab).mono ?_; rintro r H' ⟨rfl, rfl⟩); refine ⟨⟨hB.ab, hB.get At.here⟩, ?_⟩)) | (apply op_call; (· exact rfl); (· exact rfl); (· exact rfl); ((rw [hln]; (refine bld_write hW (acc := acc) (s := lineF f) (pre := [(b7, .rows false 7 [f.row])]) hb hB hl0 hlw ?_; intro bx' H1 hb' hB)); refine ⟨⟨hB.ab, hB.get At.here⟩, ?_⟩)) | (apply op_pick_f; (· exact rfl); (· exact rfl); (· (with_reducible first | assumption | rfl | decide)); (· exact rfl)) | (apply op_index_at; (· exact rfl); (· exact rfl); (· exact rfl); (· with_reducible exact hin1); (· exact rfl); (· exact rfl)) | (apply op_load_at; (· exact rfl); (· exact rfl); (· exact hB.ab.obj hloc ho); (· exact hr1); (· exact partFireR f)) | (apply bx_buildL et22; (· exact rfl); (· exact rfl); (· exact rfl); (· decide); (· assumption); intro bk H1 hB) | (apply op_at; (· exact opD_strAdd rfl rfl rfl (by simp only [List.length_append, List.length_cons, List.length_nil]; omega))) | (apply op_told; (· exact rfl); (· exact congrArg (DV.int _) hw)) | (apply bx_load0; (· exact rfl); (· exact rfl); (· assumption); (· (repeat (first | with_reducible exact At.here | with_reducible apply At.there))); (· (first | exact partFireR _ | exact partInjF _ | exact rfl))) | (apply bx_store0; (· exact rfl); (· exact rfl); (· exact rfl); (· assumption); (· (first | (dsimp only [DV.cells, getD_zero, getD_succ, Sv.cells]; done) | (dsimp only [DV.cells, getD_zero, getD_succ, Sv.cells]; exact rfl) | exact rfl)); (· (repeat (first | with_reducible exact Upd.here | with_reducible apply Upd.there))); (· exact rfl); (· exact rfl); (· exact rfl); (· exact rfl); intro H1 hB) | (apply bx_alloc; (· exact rfl); (· exact zero32); (· (first | (dsimp only [DV.cells, getD_zero, getD_succ, Sv.cells]; done) | (dsimp only [DV.cells, getD_zero, getD_succ, Sv.cells]; exact rfl) | exact rfl)); (· exact rfl); (· exact rfl); (· exact rfl); (· assumption); intro b7 H1 hB) | (apply op_at; (· exact rfl)) | (apply dwp_cond_t; (· exact rfl); (· (with_reducible first | assumption | rfl | decide))) | (apply dwp_cond_f; (· exact rfl); (· (with_reducible first | assumption | rfl | decide))) | apply dwp_block | apply dwp_skip | fail)
            refine ⟨⟨_, i + 1, bx', _, junk_facts ⟨hB.sub (List.sublist_append_right _ _), by omega, hb', hacc', ?_, hgd'⟩ rfl rfl⟩, ?_⟩
            · rw [List.length_append]; omega
            · show l.length - ((i + 1 : Nat) : Int).toNat < l.length - (i : Int).toNat
              omega
          | false =>
            have hcm : cameF f = [32, 102, 105, 114, 101, 100] := by unfold cameF; rw [hfi, hde]; rfl
            have hln : faultF f.x.k ++ [32] ++ decF f.x.w ++ [32] ++ ptextF f.x.t ++ ([32, 102, 105, 114, 101, 100]) ++ [10] = lineF f := by unfold lineF; rw [hcm]
            repeat' (first | dsimp only [putD, DV.cells, DH.new_next, DH.set_next, List.length_cons, List.length_nil, Nat.reduceAdd, List.set_cons_zero, List.set_cons_succ, getD_zero, getD_succ, fieldAt_zero, fieldAt_succ, thenD, blockD, retR] | (refine dwp_drawr _ rfl (fun H' => Above H H' ∧ H'.obj b7 = some (.rows false 7 [f.row])) ⟨hB.ab, (show Bx H _ ((b7, .rows false 7 [f.row]) :: bx) [] from hB.drop1).get At.here⟩ ?_; have hBb : Bx H _ ((b7, .rows false 7 [f.row]) :: bx) [] := hB.drop1; replace hB := hBb) | apply drawr_nil | (apply drawr_read; (· (first | exact wanted_plain rfl | (apply wanted_on; (· exact rfl); (· exact rfl); (· (with_reducible first | assumption | rfl | decide))))); (· exact rfl); (· exact rfl); (· intro H' h; exact opD_load rfl rfl h.2 rfl (by (first | exact partFireR _ | exact partInjF _ | exact rfl)))) | (apply drawr_pure; (· (first | exact wanted_plain rfl | (apply wanted_on; (· exact rfl); (· exact rfl); (· (with_reducible first | assumption | rfl | decide))))); (· exact rfl); (· exact rfl); (· exact opD_word rfl rfl rfl hk15)) | (apply drawr_pure; (· (first | exact wanted_plain rfl | (apply wanted_on; (· exact rfl); (· exact rfl); (· (with_reducible first | assumption | rfl | decide))))); (· exact rfl); (· exact rfl); (· exact opD_strAdd rfl rfl rfl (by simp only [List.length_append, List.length_cons, List.length_nil]; omega))) | (apply drawr_pure; (· (first | exact wanted_plain rfl | (apply wanted_on; (· exact rfl); (· exact rfl); (· (with_reducible first | assumption | rfl | decide))))); (· exact rfl); (· exact rfl); (· exact rfl)) | (apply drawr_move; (· (first | exact wanted_plain rfl | (apply wanted_on; (· exact rfl); (· exact rfl); (· (with_reducible first | assumption | rfl | decide))))); (· exact rfl)) | apply dwp_seq | apply dwp_region | apply ops_nil | (apply ops_plain; (· exact rfl)) | (apply ops_on; (· exact rfl); (· exact rfl); (· (with_reducible first | assumption | rfl | decide))) | (apply op_call; (· exact rfl); (· exact rfl); (· exact rfl); (refine CallWp.up hup ((check20 (l := [f.x]) (by simp) (.at (hB.obj _ List.mem_cons_self).2.1 (hB.get At.here) (Nat.le_refl _) rfl)).mono ?_); rintro r H' ⟨rfl, hab⟩; replace hB := hB.grow hab; simp only [htab, if_true])) | (apply op_call; (· exact rfl); (· exact rfl); (· exact rfl); (refine CallWp.up hup (ptext39 hgt (by assumption) ?_); intro H1 hB)) | (apply op_call; (· exact rfl); (· exact rfl); (· exact rfl); (refine CallWp.up hup (ptext39 hga (by assumption) ?_); intro H1 hB)) | (apply op_call; (· exact rfl); (· exact rfl); (· exact rfl); ((refine CallWp.up hup ((words40 _).mono ?_); rintro r H' ⟨rfl, hab⟩; replace hB := hB.grow hab); refine ⟨⟨hB.ab, hB.get At.here⟩, ?_⟩)) | (apply op_call; (· exact rfl); (· exact rfl); (· exact rfl); ((refine (hI _ _ (by first | exact hw1 | omega) (by first | exact hwB | omega) hB.ab).mono ?_; rintro r H' ⟨rfl, rfl⟩); refine ⟨⟨hB.ab, hB.get At.here⟩, ?_⟩)) | (apply op_call; (· exact rfl); (· exact rfl); (· exact rfl); ((rw [hln]; (refine bld_write hW (acc := acc) (s := lineF f) (pre := [(b7, .rows false 7 [f.row])]) hb hB hl0 hlw ?_; intro bx' H1 hb' hB)); refine ⟨⟨hB.ab, hB.get At.here⟩, ?_⟩)) | (apply op_pick_f; (· exact rfl); (· exact rfl); (· (with_reducible first | assumption | rfl | decide)); (· exact rfl)) | (apply op_index_at; (· exact rfl); (· exact rfl); (· exact rfl); (· with_reducible exact hin1); (· exact rfl); (· exact rfl)) | (apply op_load_at; (· exact rfl); (· exact rfl); (· exact hB.ab.obj hloc ho); (· exact hr1); (· exact partFireR f)) | (apply bx_buildL et22; (· exact rfl); (· exact rfl); (· exact rfl); (· decide); (· assumption); intro bk H1 hB) | (apply op_told; (· exact rfl); (· exact congrArg (DV.int _) hw)) | (apply bx_load0; (· exact rfl); (· exact rfl); (· assumption); (· (repeat (first | with_reducible exact At.here | with_reducible apply At.there))); (· (first | exact partFireR _ | exact partInjF _ | exact rfl))) | (apply bx_store0; (· exact rfl); (· exact rfl); (· exact rfl); (· assumption); (· (first | (dsimp only [DV.cells, getD_zero, getD_succ, Sv.cells]; done) | (dsimp only [DV.cells, getD_zero, getD_succ, Sv.cells]; exact rfl) | exact rfl)); (· (repeat (first | with_reducible exact Upd.here | with_reducible apply Upd.there))); (· exact rfl); (· exact rfl); (· exact rfl); (· exact rfl); intro H1 hB) | (apply bx_alloc; (· exact rfl); (· exact zero32); (· (first | (dsimp only [DV.cells, getD_zero, getD_succ, Sv.cells]; done) | (dsimp only [DV.cells, getD_zero, getD_succ, Sv.cells]; exact rfl) | exact rfl)); (· exact rfl); (· exact rfl); (· exact rfl); (· assumption); intro b7 H1 hB) | (apply op_at; (· exact rfl)) | (apply dwp_cond_t; (· exact rfl); (· (with_reducible first | assumption | rfl | decide))) | (apply dwp_cond_f; (· exact rfl); (· (with_reducible first | assumption | rfl | decide))) | apply dwp_block | apply dwp_skip | fail)
            refine ⟨⟨_, i + 1, bx', _, junk_facts ⟨hB.sub (List.sublist_append_right _ _), by omega, hb', hacc', ?_, hgd'⟩ rfl rfl⟩, ?_⟩
            · rw [List.length_append]; omega
            · show l.length - ((i + 1 : Nat) : Int).toNat < l.length - (i : Int).toNat
              omega
        | false =>
          cases hde : f.det with
          | true =>
            have hcm : cameF f = [32, 105, 100, 108, 101] ++ ([32, 97, 116, 32] ++ ptextF f.at') := by unfold cameF; rw [hfi, hde]; rfl
            have hln : faultF f.x.k ++ [32] ++ decF f.x.w ++ [32] ++ ptextF f.x.t ++ ([32, 105, 100, 108, 101] ++ ([32, 97, 116, 32] ++ ptextF f.at')) ++ [10] = lineF f := by unfold lineF; rw [hcm]
            repeat' (first | dsimp only [putD, DV.cells, DH.new_next, DH.set_next, List.length_cons, List.length_nil, Nat.reduceAdd, List.set_cons_zero, List.set_cons_succ, getD_zero, getD_succ, fieldAt_zero, fieldAt_succ, thenD, blockD, retR] | (refine dwp_drawr _ rfl (fun H' => Above H H' ∧ H'.obj b7 = some (.rows false 7 [f.row])) ⟨hB.ab, (show Bx H _ ((b7, .rows false 7 [f.row]) :: bx) [] from hB.drop1).get At.here⟩ ?_; have hBb : Bx H _ ((b7, .rows false 7 [f.row]) :: bx) [] := hB.drop1; replace hB := hBb) | apply drawr_nil | (apply drawr_read; (· (first | exact wanted_plain rfl | (apply wanted_on; (· exact rfl); (· exact rfl); (· (with_reducible first | assumption | rfl | decide))))); (· exact rfl); (· exact rfl); (· intro H' h; exact opD_load rfl rfl h.2 rfl (by (first | exact partFireR _ | exact partInjF _ | exact rfl)))) | (apply drawr_pure; (· (first | exact wanted_plain rfl | (apply wanted_on; (· exact rfl); (· exact rfl); (· (with_reducible first | assumption | rfl | decide))))); (· exact rfl); (· exact rfl); (· exact opD_word rfl rfl rfl hk15)) | (apply drawr_pure; (· (first | exact wanted_plain rfl | (apply wanted_on; (· exact rfl); (· exact rfl); (· (with_reducible first | assumption | rfl | decide))))); (· exact rfl); (· exact rfl); (· exact opD_strAdd rfl rfl rfl (by simp only [List.length_append, List.length_cons, List.length_nil]; omega))) | (apply drawr_pure; (· (first | exact wanted_plain rfl | (apply wanted_on; (· exact rfl); (· exact rfl); (· (with_reducible first | assumption | rfl | decide))))); (· exact rfl); (· exact rfl); (· exact rfl)) | (apply drawr_move; (· (first | exact wanted_plain rfl | (apply wanted_on; (· exact rfl); (· exact rfl); (· (with_reducible first | assumption | rfl | decide))))); (· exact rfl)) | apply dwp_seq | apply dwp_region | apply ops_nil | (apply ops_plain; (· exact rfl)) | (apply ops_on; (· exact rfl); (· exact rfl); (· (with_reducible first | assumption | rfl | decide))) | (apply op_call; (· exact rfl); (· exact rfl); (· exact rfl); (refine CallWp.up hup ((check20 (l := [f.x]) (by simp) (.at (hB.obj _ List.mem_cons_self).2.1 (hB.get At.here) (Nat.le_refl _) rfl)).mono ?_); rintro r H' ⟨rfl, hab⟩; replace hB := hB.grow hab; simp only [htab, if_true])) | (apply op_call; (· exact rfl); (· exact rfl); (· exact rfl); (refine CallWp.up hup (ptext39 hgt (by assumption) ?_); intro H1 hB)) | (apply op_call; (· exact rfl); (· exact rfl); (· exact rfl); (refine CallWp.up hup (ptext39 hga (by assumption) ?_); intro H1 hB)) | (apply op_call; (· exact rfl); (· exact rfl); (· exact rfl); ((refine CallWp.up hup ((words40 _).mono ?_); rintro r H' ⟨rfl, hab⟩; replace hB := hB.grow hab); refine ⟨⟨hB.ab, hB.get At.here⟩, ?_⟩)) | (apply op_call; (· exact rfl); (· exact rfl); (· exact rfl); ((refine (hI _ _ (by first | exact hw1 | omega) (by first | exact hwB | omega) hB.ab).mono ?_; rintro r H' ⟨rfl, rfl⟩); refine ⟨⟨hB.ab, hB.get At.here⟩, ?_⟩)) | (apply op_call; (· exact rfl); (· exact rfl); (· exact rfl); ((rw [hln]; (refine bld_write hW (acc := acc) (s := lineF f) (pre := [(b7, .rows false 7 [f.row])]) hb hB hl0 hlw ?_; intro bx' H1 hb' hB)); refine ⟨⟨hB.ab, hB.get At.here⟩, ?_⟩)) | (apply op_pick_f; (· exact rfl); (· exact rfl); (· (with_reducible first | assumption | rfl | decide)); (· exact rfl)) | (apply op_index_at; (· exact rfl); (· exact rfl); (· exact rfl); (· with_reducible exact hin1); (· exact rfl); (· exact rfl)) | (apply op_load_at; (· exact rfl); (· exact rfl); (· exact hB.ab.obj hloc ho); (· exact hr1); (· exact partFireR f)) | (apply bx_buildL et22; (· exact rfl); (· exact rfl); (· exact rfl); (· decide); (· assumption); intro bk H1 hB) | (apply op_at; (· exact opD_strAdd rfl rfl rfl (by simp only [List.length_append, List.length_cons, List.length_nil]; omega))) | (apply op_told; (· exact rfl); (· exact congrArg (DV.int _) hw)) | (apply bx_load0; (· exact rfl); (· exact rfl); (· assumption); (· (repeat (first | with_reducible exact At.here | with_reducible apply At.there))); (· (first | exact partFireR _ | exact partInjF _ | exact rfl))) | (apply bx_store0; (· exact rfl); (· exact rfl); (· exact rfl); (· assumption); (· (first | (dsimp only [DV.cells, getD_zero, getD_succ, Sv.cells]; done) | (dsimp only [DV.cells, getD_zero, getD_succ, Sv.cells]; exact rfl) | exact rfl)); (· (repeat (first | with_reducible exact Upd.here | with_reducible apply Upd.there))); (· exact rfl); (· exact rfl); (· exact rfl); (· exact rfl); intro H1 hB) | (apply bx_alloc; (· exact rfl); (· exact zero32); (· (first | (dsimp only [DV.cells, getD_zero, getD_succ, Sv.cells]; done) | (dsimp only [DV.cells, getD_zero, getD_succ, Sv.cells]; exact rfl) | exact rfl)); (· exact rfl); (· exact rfl); (· exact rfl); (· assumption); intro b7 H1 hB) | (apply op_at; (· exact rfl)) | (apply dwp_cond_t; (· exact rfl); (· (with_reducible first | assumption | rfl | decide))) | (apply dwp_cond_f; (· exact rfl); (· (with_reducible first | assumption | rfl | decide))) | apply dwp_block | apply dwp_skip | fail)
            refine ⟨⟨_, i + 1, bx', _, junk_facts ⟨hB.sub (List.sublist_append_right _ _), by omega, hb', hacc', ?_, hgd'⟩ rfl rfl⟩, ?_⟩
            · rw [List.length_append]; omega
            · show l.length - ((i + 1 : Nat) : Int).toNat < l.length - (i : Int).toNat
              omega
          | false =>
            have hcm : cameF f = [32, 105, 100, 108, 101] := by unfold cameF; rw [hfi, hde]; rfl
            have hln : faultF f.x.k ++ [32] ++ decF f.x.w ++ [32] ++ ptextF f.x.t ++ ([32, 105, 100, 108, 101]) ++ [10] = lineF f := by unfold lineF; rw [hcm]
            repeat' (first | dsimp only [putD, DV.cells, DH.new_next, DH.set_next, List.length_cons, List.length_nil, Nat.reduceAdd, List.set_cons_zero, List.set_cons_succ, getD_zero, getD_succ, fieldAt_zero, fieldAt_succ, thenD, blockD, retR] | (refine dwp_drawr _ rfl (fun H' => Above H H' ∧ H'.obj b7 = some (.rows false 7 [f.row])) ⟨hB.ab, (show Bx H _ ((b7, .rows false 7 [f.row]) :: bx) [] from hB.drop1).get At.here⟩ ?_; have hBb : Bx H _ ((b7, .rows false 7 [f.row]) :: bx) [] := hB.drop1; replace hB := hBb) | apply drawr_nil | (apply drawr_read; (· (first | exact wanted_plain rfl | (apply wanted_on; (· exact rfl); (· exact rfl); (· (with_reducible first | assumption | rfl | decide))))); (· exact rfl); (· exact rfl); (· intro H' h; exact opD_load rfl rfl h.2 rfl (by (first | exact partFireR _ | exact partInjF _ | exact rfl)))) | (apply drawr_pure; (· (first | exact wanted_plain rfl | (apply wanted_on; (· exact rfl); (· exact rfl); (· (with_reducible first | assumption | rfl | decide))))); (· exact rfl); (· exact rfl); (· exact opD_word rfl rfl rfl hk15)) | (apply drawr_pure; (· (first | exact wanted_plain rfl | (apply wanted_on; (· exact rfl); (· exact rfl); (· (with_reducible first | assumption | rfl | decide))))); (· exact rfl); (· exact rfl); (· exact opD_strAdd rfl rfl rfl (by simp only [List.length_append, List.length_cons, List.length_nil]; omega))) | (apply drawr_pure; (· (first | exact wanted_plain rfl | (apply wanted_on; (· exact rfl); (· exact rfl); (· (with_reducible first | assumption | rfl | decide))))); (· exact rfl); (· exact rfl); (· exact rfl)) | (apply drawr_move; (· (first | exact wanted_plain rfl | (apply wanted_on; (· exact rfl); (· exact rfl); (· (with_reducible first | assumption | rfl | decide))))); (· exact rfl)) | apply dwp_seq | apply dwp_region | apply ops_nil | (apply ops_plain; (· exact rfl)) | (apply ops_on; (· exact rfl); (· exact rfl); (· (with_reducible first | assumption | rfl | decide))) | (apply op_call; (· exact rfl); (· exact rfl); (· exact rfl); (refine CallWp.up hup ((check20 (l := [f.x]) (by simp) (.at (hB.obj _ List.mem_cons_self).2.1 (hB.get At.here) (Nat.le_refl _) rfl)).mono ?_); rintro r H' ⟨rfl, hab⟩; replace hB := hB.grow hab; simp only [htab, if_true])) | (apply op_call; (· exact rfl); (· exact rfl); (· exact rfl); (refine CallWp.up hup (ptext39 hgt (by assumption) ?_); intro H1 hB)) | (apply op_call; (· exact rfl); (· exact rfl); (· exact rfl); (refine CallWp.up hup (ptext39 hga (by assumption) ?_); intro H1 hB)) | (apply op_call; (· exact rfl); (· exact rfl); (· exact rfl); ((refine CallWp.up hup ((words40 _).mono ?_); rintro r H' ⟨rfl, hab⟩; replace hB := hB.grow hab); refine ⟨⟨hB.ab, hB.get At.here⟩, ?_⟩)) | (apply op_call; (· exact rfl); (· exact rfl); (· exact rfl); ((refine (hI _ _ (by first | exact hw1 | omega) (by first | exact hwB | omega) hB.ab).mono ?_; rintro r H' ⟨rfl, rfl⟩); refine ⟨⟨hB.ab, hB.get At.here⟩, ?_⟩)) | (apply op_call; (· exact rfl); (· exact rfl); (· exact rfl); ((rw [hln]; (refine bld_write hW (acc := acc) (s := lineF f) (pre := [(b7, .rows false 7 [f.row])]) hb hB hl0 hlw ?_; intro bx' H1 hb' hB)); refine ⟨⟨hB.ab, hB.get At.here⟩, ?_⟩)) | (apply op_pick_f; (· exact rfl); (· exact rfl); (· (with_reducible first | assumption | rfl | decide)); (· exact rfl)) | (apply op_index_at; (· exact rfl); (· exact rfl); (· exact rfl); (· with_reducible exact hin1); (· exact rfl); (· exact rfl)) | (apply op_load_at; (· exact rfl); (· exact rfl); (· exact hB.ab.obj hloc ho); (· exact hr1); (· exact partFireR f)) | (apply bx_buildL et22; (· exact rfl); (· exact rfl); (· exact rfl); (· decide); (· assumption); intro bk H1 hB) | (apply op_told; (· exact rfl); (· exact congrArg (DV.int _) hw)) | (apply bx_load0; (· exact rfl); (· exact rfl); (· assumption); (· (repeat (first | with_reducible exact At.here | with_reducible apply At.there))); (· (first | exact partFireR _ | exact partInjF _ | exact rfl))) | (apply bx_store0; (· exact rfl); (· exact rfl); (· exact rfl); (· assumption); (· (first | (dsimp only [DV.cells, getD_zero, getD_succ, Sv.cells]; done) | (dsimp only [DV.cells, getD_zero, getD_succ, Sv.cells]; exact rfl) | exact rfl)); (· (repeat (first | with_reducible exact Upd.here | with_reducible apply Upd.there))); (· exact rfl); (· exact rfl); (· exact rfl); (· exact rfl); intro H1 hB) | (apply bx_alloc; (· exact rfl); (· exact zero32); (· (first | (dsimp only [DV.cells, getD_zero, getD_succ, Sv.cells]; done) | (dsimp only [DV.cells, getD_zero, getD_succ, Sv.cells]; exact rfl) | exact rfl)); (· exact rfl); (· exact rfl); (· exact rfl); (· assumption); intro b7 H1 hB) | (apply op_at; (· exact rfl)) | (apply dwp_cond_t; (· exact rfl); (· (with_reducible first | assumption | rfl | decide))) | (apply dwp_cond_f; (· exact rfl); (· (with_reducible first | assumption | rfl | decide))) | apply dwp_block | apply dwp_skip | fail)
            refine ⟨⟨_, i + 1, bx', _, junk_facts ⟨hB.sub (List.sublist_append_right _ _), by omega, hb', hacc', ?_, hgd'⟩ rfl rfl⟩, ?_⟩
            · rw [List.length_append]; omega
            · show l.length - ((i + 1 : Nat) : Int).toNat < l.length - (i : Int).toNat
              omega
  · have hie : i = l.length := by omega
    subst hie
    have hc : decide ((l.length : Int) < (l.length : Int)) = false := by simp
    rw [List.take_length] at hacc
    have hc1 : l.countP (·.fired) ≤ l.length := List.countP_le_length
    have hc2 : l.countP (·.det) ≤ l.length := List.countP_le_length
    have q1 := decF_len (n := ((l.countP (·.fired) : Nat) : Int)) (by omega) (by omega)
    have q2 := decF_len (n := ((l.countP (·.det) : Nat) : Int)) (by omega) (by omega)
    have q3 := decF_len (n := ((l.length : Nat) : Int)) (by omega) (by omega)
    have htl : decF ((l.countP (·.fired) : Nat) : Int) ++ [32, 111, 102, 32] ++ decF ((l.length : Nat) : Int) ++ [32, 100, 101, 116, 101, 99, 116, 101, 100, 32] ++ decF ((l.countP (·.det) : Nat) : Int) ++ [10] = tailF l := rfl
    have ht0 : 0 < (tailF l).length := by rw [← htl]; simp only [List.length_append, List.length_cons, List.length_nil]; omega
    have htw : acc.length + (tailF l).length ≤ 100000000 := by rw [← htl]; simp only [List.length_append, List.length_cons, List.length_nil]; omega
    have hne : acc ++ tailF l ≠ [] := by intro e; have := congrArg List.length e; rw [List.length_append, List.length_nil] at this; omega
    repeat' (first | dsimp only [putD, DV.cells, DH.new_next, DH.set_next, List.length_cons, List.length_nil, Nat.reduceAdd, List.set_cons_zero, List.set_cons_succ, getD_zero, getD_succ, fieldAt_zero, fieldAt_succ, thenD, blockD, retR] | apply dwp_seq | apply dwp_region | apply ops_nil | (apply ops_plain; (· exact rfl)) | (apply op_call; (· exact rfl); (· exact rfl); (· exact rfl); (refine CallWp.up hup ((count16 (by omega) (hs.mono hB.ab)).mono ?_); rintro r H' ⟨rfl, hab⟩; replace hB := hB.grow hab)) | (apply op_call; (· exact rfl); (· exact rfl); (· exact rfl); (rw [htl]; refine bld_write hW (acc := acc) (s := tailF l) (pre := []) hb hB ht0 htw ?_; intro bx' H1 hb' hB)) | (apply op_call; (· exact rfl); (· exact rfl); (· exact rfl); (refine bld_str hS hb' hne hB ?_; intro H1 hfin)) | (apply op_call; (· exact rfl); (· exact rfl); (· exact rfl); (refine (hI _ _ (by first | exact hw1 | omega) (by first | exact hwB | omega) hB.ab).mono ?_; rintro r H' ⟨rfl, rfl⟩)) | (apply op_at; (· exact opD_strAdd rfl rfl rfl (by simp only [List.length_append, List.length_cons, List.length_nil]; omega))) | (apply op_at; (· exact rfl)) | (apply dwp_cond_f; (· exact rfl); (· (with_reducible first | assumption | rfl | decide))) | apply dwp_ret | apply dwp_exit | (refine ⟨_, rfl, ?_⟩) | fail)
    exact ⟨by unfold textR; rw [if_pos (List.all_eq_true.mpr (by rw [List.take_length] at hgd; exact hgd))]; unfold textL; rw [← hacc]; rfl, hfin⟩
end Go.Det.C

/- Cover: what Report comes to, event by event. -/
namespace Go.Det.C
open Go Go.Det Go.Proofs
set_option linter.unusedVariables false
set_option linter.unusedSimpArgs false
def keyOf (x : Inj) : Ev := ⟨x.t, 11, x.w, x.k, x.u⟩
theorem keyOf_inj {x y : Inj} (h : keyOf x = keyOf y) : x = y := by
  cases x; cases y
  simp only [keyOf, Ev.mk.injEq] at h
  obtain ⟨h1, _, h2, h3, h4⟩ := h
  subst h1 h2 h3 h4
  rfl
structure CSt where
  fires : List Fire
  q : Ev → List Nat
  op : List Nat
def notI (tab : List Inj) (y : Ev) (i : Nat) : Bool := match tab[i]? with | some x => noticesF x y | none => false
def markD (y : Ev) (f : Fire) : Fire := { f with det := true, at' := y.t }
def markF (f : Fire) : Fire := { f with fired := true }
def noteFs (tab : List Inj) (y : Ev) (fs : List Fire) (op : List Nat) : List Fire := op.foldl (fun fs i => if notI tab y i then fs.modify i (markD y) else fs) fs
def noteOp (tab : List Inj) (y : Ev) (op : List Nat) : List Nat := op.filter fun i => !notI tab y i
def stepC (tab : List Inj) (s : CSt) (y : Ev) : CSt :=
  match s.q y with
  | [] => ⟨noteFs tab y s.fires s.op, s.q, noteOp tab y s.op⟩
  | i :: r => ⟨(noteFs tab y s.fires s.op).modify i markF, fun k => if k = y then r else s.q k, noteOp tab y s.op ++ [i]⟩
def queue0 (tab : List Inj) (n : Nat) (y : Ev) : List Nat := (List.range n).filter fun j => match tab[j]? with | some x => decide (keyOf x = y) | none => false
def initC (tab : List Inj) : CSt := ⟨tab.map fun x => ⟨x, false, false, 0⟩, queue0 tab tab.length, []⟩
def reportC (tab : List Inj) (log : List Ev) : CSt := log.foldl (stepC tab) (initC tab)
theorem noteFs_get (tab : List Inj) (y : Ev) (i : Nat) : ∀ (op : List Nat) (fs : List Fire), (noteFs tab y fs op)[i]? = if i ∈ op ∧ notI tab y i = true then (fs[i]?).map (markD y) else fs[i]? := by
  intro op
  induction op with
  | nil => intro fs; rw [if_neg (by simp)]; rfl
  | cons j r ih =>
    intro fs
    show (noteFs tab y (if notI tab y j then fs.modify j (markD y) else fs) r)[i]? = _
    rw [ih]
    by_cases hn : notI tab y i = true
    · by_cases hj : j = i
      · subst hj
        simp only [hn, if_true, and_true, List.mem_cons, true_or]
        rw [List.getElem?_modify]
        cases hf : fs[j]? with
        | none => simp
        | some f => split <;> simp [markD]
      · have e : (if notI tab y j then fs.modify j (markD y) else fs)[i]? = fs[i]? := by
          split
          · rw [List.getElem?_modify]; simp [hj]
          · rfl
        rw [e]
        have hm : (i ∈ j :: r ∧ notI tab y i = true) ↔ (i ∈ r ∧ notI tab y i = true) := by
          rw [List.mem_cons]
          constructor
          · rintro ⟨rfl | h, h2⟩
            · exact absurd rfl hj
            · exact ⟨h, h2⟩
          · rintro ⟨h, h2⟩; exact ⟨Or.inr h, h2⟩
        simp only [hm]
    · simp only [hn, and_false, if_false]
      by_cases hj : notI tab y j = true
      · rw [if_pos hj, List.getElem?_modify]
        have : j ≠ i := fun e => hn (e ▸ hj)
        simp [this]
      · rw [if_neg hj]; simp
theorem noteFs_len (tab : List Inj) (y : Ev) : ∀ (op : List Nat) (fs : List Fire), (noteFs tab y fs op).length = fs.length := by
  intro op
  induction op with
  | nil => intro fs; rfl
  | cons j r ih =>
    intro fs
    show (noteFs tab y (if notI tab y j then fs.modify j (markD y) else fs) r).length = _
    rw [ih]
    split <;> simp
theorem mem_noteOp {tab : List Inj} {y : Ev} {op : List Nat} {i : Nat} : i ∈ noteOp tab y op ↔ i ∈ op ∧ notI tab y i = false := by
  unfold noteOp
  rw [List.mem_filter]
  simp
theorem stepC_len (tab : List Inj) (s : CSt) (y : Ev) : (stepC tab s y).fires.length = s.fires.length := by
  unfold stepC
  split <;> simp [noteFs_len]
theorem fold_len (tab : List Inj) (log : List Ev) : ∀ s : CSt, (log.foldl (stepC tab) s).fires.length = s.fires.length := by
  induction log with
  | nil => intro s; rfl
  | cons y r ih => intro s; rw [List.foldl_cons, ih, stepC_len]
theorem report_len (tab : List Inj) (log : List Ev) : (reportC tab log).fires.length = tab.length := by
  unfold reportC
  rw [fold_len]
  simp [initC]
/-! ### what always holds -/
structure WFC (tab : List Inj) (s : CSt) : Prop where
  len : s.fires.length = tab.length
  x : ∀ (i : Nat) (f : Fire), s.fires[i]? = some f → tab[i]? = some f.x
  op : ∀ i ∈ s.op, ∃ f : Fire, s.fires[i]? = some f ∧ f.fired = true ∧ f.det = false
  q : ∀ y, ∀ i ∈ s.q y, (∃ f : Fire, s.fires[i]? = some f ∧ f.fired = false ∧ keyOf f.x = y)
  nd : ∀ y, (s.q y).Nodup
  df : ∀ (i : Nat) (f : Fire), s.fires[i]? = some f → f.det = true → f.fired = true
theorem WFC.init (tab : List Inj) : WFC tab (initC tab) := by
  have hx : ∀ (i : Nat) (f : Fire), (initC tab).fires[i]? = some f → ∃ x, tab[i]? = some x ∧ f = ⟨x, false, false, 0⟩ := by
    intro i f h
    simp only [initC, List.getElem?_map, Option.map_eq_some_iff] at h
    obtain ⟨x, h1, h2⟩ := h
    exact ⟨x, h1, h2.symm⟩
  refine ⟨by simp [initC], fun i f h => ?_, fun i h => absurd h (by simp [initC]), fun y i h => ?_, fun y => ?_, fun i f h hd => ?_⟩
  · obtain ⟨x, h1, rfl⟩ := hx i f h; exact h1
  · simp only [initC, queue0, List.mem_filter] at h
    obtain ⟨_, h2⟩ := h
    cases hx : tab[i]? with
    | none => rw [hx] at h2; cases h2
    | some x =>
      rw [hx] at h2
      exact ⟨⟨x, false, false, 0⟩, by simp [initC, hx], rfl, by simpa using h2⟩
  · exact List.Pairwise.filter _ List.nodup_range
  · obtain ⟨x, _, rfl⟩ := hx i f h; cases hd
/-- What a step makes of one row. -/
def rowStep (tab : List Inj) (s : CSt) (y : Ev) (i : Nat) (f : Fire) : Fire :=
  let g := if i ∈ s.op ∧ notI tab y i = true then markD y f else f
  if (s.q y).head? = some i then markF g else g
theorem stepC_get (tab : List Inj) (s : CSt) (y : Ev) (i : Nat) : (stepC tab s y).fires[i]? = (s.fires[i]?).map (rowStep tab s y i) := by
  have e : (noteFs tab y s.fires s.op)[i]? = (s.fires[i]?).map fun f => if i ∈ s.op ∧ notI tab y i = true then markD y f else f := by
    rw [noteFs_get]
    split
    · rfl
    · rw [Option.map_id']
  unfold stepC
  cases hq : s.q y with
  | nil =>
    show (noteFs tab y s.fires s.op)[i]? = _
    rw [e]
    congr 1
    funext f
    unfold rowStep
    rw [hq]
    simp
  | cons j r =>
    show ((noteFs tab y s.fires s.op).modify j markF)[i]? = _
    rw [List.getElem?_modify, e]
    cases s.fires[i]? with
    | none => simp
    | some f =>
      unfold rowStep
      rw [hq]
      by_cases hj : j = i
      · subst hj; simp
      · simp [hj]
end Go.Det.C

/- Cover: it grows; the first of equals exactly. -/
namespace Go.Det.C
open Go Go.Det Go.Proofs
set_option linter.unusedVariables false
set_option linter.unusedSimpArgs false
theorem rowStep_x (tab : List Inj) (s : CSt) (y : Ev) (i : Nat) (f : Fire) : (rowStep tab s y i f).x = f.x := by
  unfold rowStep
  simp only
  split <;> split <;> rfl
theorem stepC_q (tab : List Inj) (s : CSt) (y : Ev) (k : Ev) : (stepC tab s y).q k = if k = y then (s.q y).tail else s.q k := by
  unfold stepC
  cases hq : s.q y with
  | nil =>
    show s.q k = _
    split
    · rename_i e; subst e; rw [hq]; rfl
    · rfl
  | cons j r => rfl
theorem stepC_op (tab : List Inj) (s : CSt) (y : Ev) : (stepC tab s y).op = noteOp tab y s.op ++ (s.q y).head?.toList := by
  unfold stepC
  cases hq : s.q y with
  | nil => show noteOp tab y s.op = _; simp
  | cons j r => rfl
/-- What a step makes of a row, told by what it was. -/
theorem WFC.row {tab : List Inj} {s : CSt} (h : WFC tab s) (y : Ev) {i : Nat} {f : Fire} (hf : s.fires[i]? = some f) :
    ((s.q y).head? = some i ∧ f.fired = false ∧ i ∉ s.op ∧ rowStep tab s y i f = markF f) ∨
    ((s.q y).head? ≠ some i ∧ i ∈ s.op ∧ f.fired = true ∧ f.det = false ∧ rowStep tab s y i f = if notI tab y i = true then markD y f else f) ∨
    ((s.q y).head? ≠ some i ∧ i ∉ s.op ∧ rowStep tab s y i f = f) := by
  by_cases h1 : (s.q y).head? = some i
  · left
    have hm : i ∈ s.q y := List.mem_of_mem_head? (by rw [h1]; rfl)
    obtain ⟨g, hg, hg1, _⟩ := h.q y i hm
    rw [hf] at hg; cases hg
    have ho : i ∉ s.op := fun hi => by
      obtain ⟨g, hg, hg2, _⟩ := h.op i hi
      rw [hf] at hg; cases hg
      rw [hg1] at hg2; cases hg2
    refine ⟨h1, hg1, ho, ?_⟩
    unfold rowStep
    simp only [h1, ho, false_and, if_false, if_true]
  · right
    by_cases ho : i ∈ s.op
    · left
      obtain ⟨g, hg, hg1, hg2⟩ := h.op i ho
      rw [hf] at hg; cases hg
      refine ⟨h1, ho, hg1, hg2, ?_⟩
      unfold rowStep
      simp only [h1, ho, true_and, if_false]
    · right
      refine ⟨h1, ho, ?_⟩
      unfold rowStep
      simp only [h1, ho, false_and, if_false]
theorem WFC.step {tab : List Inj} {s : CSt} (h : WFC tab s) (y : Ev) : WFC tab (stepC tab s y) := by
  have back : ∀ (i : Nat) (f : Fire), (stepC tab s y).fires[i]? = some f → ∃ g, s.fires[i]? = some g ∧ f = rowStep tab s y i g := by
    intro i f hf
    rw [stepC_get, Option.map_eq_some_iff] at hf
    obtain ⟨g, h1, h2⟩ := hf
    exact ⟨g, h1, h2.symm⟩
  have forth : ∀ (i : Nat) (g : Fire), s.fires[i]? = some g → (stepC tab s y).fires[i]? = some (rowStep tab s y i g) := by
    intro i g hg
    rw [stepC_get, hg]; rfl
  refine ⟨by rw [stepC_len, h.len], fun i f hf => ?_, fun i hi => ?_, fun k i hi => ?_, fun k => ?_, fun i f hf hd => ?_⟩
  · obtain ⟨g, hg, rfl⟩ := back i f hf
    rw [rowStep_x]
    exact h.x i g hg
  · rw [stepC_op, List.mem_append] at hi
    rcases hi with hi | hi
    · obtain ⟨ho, hn⟩ := mem_noteOp.mp hi
      obtain ⟨g, hg, g1, g2⟩ := h.op i ho
      refine ⟨_, forth i g hg, ?_⟩
      rcases h.row y hg with ⟨_, h2, h3, _⟩ | ⟨_, _, _, _, e⟩ | ⟨_, h3, _⟩
      · exact absurd ho h3
      · rw [e, hn]; exact ⟨g1, g2⟩
      · exact absurd ho h3
    · have hh : (s.q y).head? = some i := by
        rw [Option.mem_toList] at hi; exact hi
      obtain ⟨g, hg, g1, _⟩ := h.q y i (List.mem_of_mem_head? (by rw [hh]; rfl))
      refine ⟨_, forth i g hg, ?_⟩
      rcases h.row y hg with ⟨_, h2, h3, e⟩ | ⟨h1, _⟩ | ⟨h1, _⟩
      · rw [e]
        refine ⟨rfl, ?_⟩
        show g.det = false
        cases hd : g.det with
        | false => rfl
        | true => rw [h.df i g hg hd] at g1; cases g1
      · exact absurd hh h1
      · exact absurd hh h1
  · rw [stepC_q] at hi
    have hi' : i ∈ s.q k ∧ (s.q y).head? ≠ some i := by
      split at hi
      · rename_i e
        subst e
        refine ⟨List.mem_of_mem_tail hi, fun hh => ?_⟩
        have hnd := h.nd k
        cases hq : s.q k with
        | nil => rw [hq] at hh; cases hh
        | cons a r =>
          rw [hq] at hh hi hnd
          cases hh
          exact (List.nodup_cons.mp hnd).1 hi
      · rename_i hne
        refine ⟨hi, fun hh => ?_⟩
        obtain ⟨g, hg, _, g2⟩ := h.q k i hi
        obtain ⟨g', hg', _, g2'⟩ := h.q y i (List.mem_of_mem_head? (by rw [hh]; rfl))
        rw [hg] at hg'; cases hg'
        exact hne (g2.symm.trans g2')
    obtain ⟨g, hg, g1, g2⟩ := h.q k i hi'.1
    refine ⟨_, forth i g hg, ?_⟩
    rw [rowStep_x]
    refine ⟨?_, g2⟩
    rcases h.row y hg with ⟨h1, _⟩ | ⟨_, _, h3, _⟩ | ⟨_, _, e⟩
    · exact absurd h1 hi'.2
    · rw [g1] at h3; cases h3
    · rw [e]; exact g1
  · rw [stepC_q]
    split
    · exact (h.nd y).sublist (List.tail_sublist _)
    · exact h.nd k
  · obtain ⟨g, hg, rfl⟩ := back i f hf
    rcases h.row y hg with ⟨_, h2, _, e⟩ | ⟨_, _, h3, _, e⟩ | ⟨_, _, e⟩
    · rw [e]; rfl
    · rw [e]; split
      · exact h3
      · exact h3
    · rw [e] at hd ⊢; exact h.df i g hg hd
theorem WFC.fold {tab : List Inj} (log : List Ev) : ∀ {s : CSt}, WFC tab s → WFC tab (log.foldl (stepC tab) s) := by
  induction log with
  | nil => intro s h; exact h
  | cons y r ih => intro s h; exact ih (h.step y)
theorem WFC.report (tab : List Inj) (log : List Ev) : WFC tab (reportC tab log) := (WFC.init tab).fold log
/-! ### it grows -/
/-! ### the first of equals -/
/-- The law's own scan. -/
structure Scan where
  f : Bool
  d : Bool
  a : Int
def scanStep (x : Inj) (c : Scan) (y : Ev) : Scan :=
  let c1 : Scan := if c.f = true ∧ c.d = false ∧ noticesF x y = true then ⟨c.f, true, y.t⟩ else c
  ⟨c.f || decide (y = keyOf x), c1.d, c1.a⟩
def scanF (x : Inj) (log : List Ev) : Scan := log.foldl (scanStep x) ⟨false, false, 0⟩
structure First (tab : List Inj) (s : CSt) (i : Nat) (x : Inj) (c : Scan) : Prop where
  row : s.fires[i]? = some ⟨x, c.f, c.d, c.a⟩
  un : c.f = false → c.d = false ∧ (s.q (keyOf x)).head? = some i
  op : c.f = true → c.d = false → i ∈ s.op
  cl : c.d = true → i ∉ s.op
theorem First.step {tab : List Inj} {s : CSt} {i : Nat} {x : Inj} {c : Scan} (hw : WFC tab s) (h : First tab s i x c) (y : Ev) : First tab (stepC tab s y) i x (scanStep x c y) := by
  have hx : tab[i]? = some x := hw.x i _ h.row
  have hn : notI tab y i = noticesF x y := by unfold notI; rw [hx]
  have hw' := hw.step y
  have hrow : (stepC tab s y).fires[i]? = some (rowStep tab s y i ⟨x, c.f, c.d, c.a⟩) := by rw [stepC_get, h.row]; rfl
  obtain ⟨cf, cd, ca⟩ := c
  simp only at h hrow
  rcases hw.row y h.row with ⟨h1, h2, h3, e⟩ | ⟨h1, h2, h3, h4, e⟩ | ⟨h1, h2, e⟩
  · -- it fires
    simp only at h2
    subst h2
    obtain ⟨hd, hq⟩ := h.un rfl
    simp only at hd
    subst hd
    have hk : y = keyOf x := by
      obtain ⟨g, hg, _, g2⟩ := hw.q y i (List.mem_of_mem_head? (by rw [h1]; rfl))
      have := h.row
      rw [hg] at this
      cases this
      exact g2.symm
    have es : scanStep x ⟨false, false, ca⟩ y = ⟨true, false, ca⟩ := by
      unfold scanStep
      simp [hk]
    rw [es]
    refine ⟨by rw [hrow, e]; rfl, fun h => (by cases h), fun _ _ => ?_, fun h => (by cases h)⟩
    rw [stepC_op, List.mem_append]
    right
    rw [h1]; simp
  · -- it is open
    simp only at h3 h4
    subst h3 h4
    have es : scanStep x ⟨true, false, ca⟩ y = if noticesF x y = true then ⟨true, true, y.t⟩ else ⟨true, false, ca⟩ := by
      unfold scanStep
      by_cases hb : noticesF x y = true <;> simp [hb]
    rw [es]
    rw [hn] at e
    by_cases hb : noticesF x y = true
    · rw [if_pos hb] at e ⊢
      refine ⟨by rw [hrow, e]; rfl, fun h => (by cases h), fun _ h => (by cases h), fun _ hi => ?_⟩
      rw [stepC_op, List.mem_append] at hi
      rcases hi with hi | hi
      · have := (mem_noteOp.mp hi).2
        rw [hn, hb] at this; cases this
      · rw [Option.mem_toList] at hi
        exact h1 hi
    · rw [if_neg hb] at e ⊢
      refine ⟨by rw [hrow, e], fun h => (by cases h), fun _ _ => ?_, fun h => (by cases h)⟩
      rw [stepC_op, List.mem_append]
      left
      refine mem_noteOp.mpr ⟨h2, ?_⟩
      rw [hn]; simpa using hb
  · -- neither
    have hnot : ¬(cf = true ∧ cd = false) := fun ⟨a, b⟩ => h2 (h.op a b)
    have hopc : i ∉ (stepC tab s y).op := fun hi => by
      rw [stepC_op, List.mem_append] at hi
      rcases hi with hi | hi
      · exact h2 (mem_noteOp.mp hi).1
      · rw [Option.mem_toList] at hi
        exact h1 hi
    cases cf with
    | true =>
      have hcd : cd = true := by cases cd with | true => rfl | false => exact absurd ⟨rfl, rfl⟩ hnot
      subst hcd
      have es : scanStep x ⟨true, true, ca⟩ y = ⟨true, true, ca⟩ := by unfold scanStep; simp
      rw [es]
      exact ⟨by rw [hrow, e], fun h => (by cases h), fun _ h => (by cases h), fun _ => hopc⟩
    | false =>
      obtain ⟨hd, hq⟩ := h.un rfl
      simp only at hd
      subst hd
      have hky : y ≠ keyOf x := fun e => h1 (e ▸ hq)
      have es : scanStep x ⟨false, false, ca⟩ y = ⟨false, false, ca⟩ := by unfold scanStep; simp [hky]
      rw [es]
      refine ⟨by rw [hrow, e], fun _ => ⟨rfl, ?_⟩, fun h => (by cases h), fun h => (by cases h)⟩
      rw [stepC_q, if_neg (fun e => hky e.symm)]
      exact hq
theorem First.fold {tab : List Inj} {i : Nat} {x : Inj} (log : List Ev) : ∀ {s : CSt} {c : Scan}, WFC tab s → First tab s i x c → First tab (log.foldl (stepC tab) s) i x (log.foldl (scanStep x) c) := by
  induction log with
  | nil => intro s c _ h; exact h
  | cons y r ih => intro s c hw h; exact ih (hw.step y) (h.step hw y)
theorem head_filter_range {n i : Nat} {p : Nat → Bool} (hi : i < n) (h1 : p i = true) (h2 : ∀ j, j < i → p j = false) : ((List.range n).filter p).head? = some i := by
  obtain ⟨m, rfl⟩ : ∃ m, n = i + (m + 1) := ⟨n - i - 1, by omega⟩
  rw [List.range_add, List.filter_append]
  have e : (List.range i).filter p = [] := by
    rw [List.filter_eq_nil_iff]
    intro j hj
    rw [h2 j (List.mem_range.mp hj)]
    simp
  rw [e, List.nil_append, List.range_succ_eq_map]
  simp [h1]
theorem first {tab : List Inj} {log : List Ev} {i : Nat} {x : Inj} (hx : tab[i]? = some x) (hf : ∀ j, j < i → tab[j]? ≠ some x) :
    (reportC tab log).fires[i]? = some ⟨x, (scanF x log).f, (scanF x log).d, (scanF x log).a⟩ := by
  have hi : i < tab.length := (List.getElem?_eq_some_iff.mp hx).1
  refine (First.fold (tab := tab) (i := i) (x := x) log (WFC.init tab) (c := ⟨false, false, 0⟩) ⟨by simp [initC, hx], fun _ => ⟨rfl, ?_⟩, fun h => (by cases h), fun h => (by cases h)⟩).row
  show (queue0 tab tab.length (keyOf x)).head? = some i
  refine head_filter_range hi (by rw [hx]; simp) fun j hj => ?_
  cases hjx : tab[j]? with
  | none => rfl
  | some z =>
    show decide (keyOf z = keyOf x) = false
    rw [decide_eq_false_iff_not]
    intro e
    exact hf j hj (by rw [hjx, keyOf_inj e])
/-! ### in order: equals lie side by side -/
end Go.Det.C
