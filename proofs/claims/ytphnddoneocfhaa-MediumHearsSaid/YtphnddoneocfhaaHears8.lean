/- What may be on a channel: tables for the functions that tell it. -/
import Derived.Test.YtphnddoneocfhaaRows
import Derived.Test.YtphnddoneocfhaaHears7
namespace Go.Det.M11
open Go Go.Det Go.Proofs
set_option maxRecDepth 4000
set_option maxHeartbeats 2000000
set_option linter.unusedVariables false
set_option linter.unusedSimpArgs false
abbrev G := List DV → DH → Option (DV × DH)
abbrev H0 : DH := ⟨0, fun _ => none⟩
def L : List FuncId := [3, 4, 15, 17, 19, 51, 64, 48, 72, 83, 98, 84, 49, 50, 73, 18, 16, 20, 8, 9, 10, 30, 31, 33, 60, 61, 57, 78, 32, 58, 79, 34, 59, 35, 36, 62, 63, 65, 37, 66, 67, 80]
theorem mixed : Try.prog.follows .mixedOrders = true := by kernel_rfl
theorem okL : L.all (okB Try.prog) = true := by kernel_rfl
def X0 : Ext := Xof L []
theorem ok0 : ProgOk Try.prog X0 := progOk_of mixed okL (by simp)
/-- The chapter's example. -/
def gLive : G := fun args H => match args with
  | [] => some (.bool true, H)
  | _ => none
theorem live_run : (match callD Try.prog X0 2000 15 [] H0 with | some (.bool true, _) => true | _ => false) = true := by kernel_rfl
theorem live_ok : ExtSound Try.prog gLive 15 := ext_closed ok0 Try.func15 rfl rfl (by
  intro args H r H' h
  unfold gLive at h
  split at h <;> cases h
  refine ⟨rfl, rfl, rfl, 2000, ?_⟩
  have := live_run
  split at this
  · rename_i H1 e
    exact ⟨H1, e⟩
  · cases this)
/-- May a number be a time? -/
def okT (x : Int) : Bool := decide (-1152921504606846976 ≤ x) && decide (x ≤ 1152921504606846976)
theorem wrap1 : IntKind.i64.wrap (0 + 1) = 1 := by decide
theorem may1 (H : DH) (l : Nat) (ro : Bool) (x : Int) (ho : H.obj l = some (.rows ro 1 [[.int .i64 x]])) : CallWp Try.prog X0 72 [.sl (some (l, 0, 1)) 1 1 true] H (fun r H' => r = .bool (okT x) ∧ H' = H) := by
  refine enter rfl Try.func72 rfl Try.ntmps72 rfl ?_
  dsimp only [List.cons_append, List.nil_append, List.length_cons, List.length_nil, List.replicate_succ, List.replicate_zero, Nat.reduceAdd, Nat.reduceSub]
  repeat' (first
    | refine dwp_seq ?_
    | refine dwp_region ?_
    | refine ops_nil ?_
    | refine dwp_round ?_
    | (refine ops_plain rfl ?_; (first | (refine op_call rfl rfl rfl ?_; refine enter rfl Try.func83 rfl Try.ntmps83 rfl ?_; dsimp only [List.cons_append, List.nil_append, List.length_cons, List.length_nil, List.replicate_succ, List.replicate_zero, Nat.reduceAdd, Nat.reduceSub]) | (refine op_call rfl rfl rfl ?_; refine enter rfl Try.func98 rfl Try.ntmps98 rfl ?_; dsimp only [List.cons_append, List.nil_append, List.length_cons, List.length_nil, List.replicate_succ, List.replicate_zero, Nat.reduceAdd, Nat.reduceSub]) | (refine op_call rfl rfl rfl ?_; refine enter rfl Try.func84 rfl Try.ntmps84 rfl ?_; dsimp only [List.cons_append, List.nil_append, List.length_cons, List.length_nil, List.replicate_succ, List.replicate_zero, Nat.reduceAdd, Nat.reduceSub]) | refine op_pick_t rfl rfl (by first | with_reducible assumption | with_reducible rfl | decide) rfl ?_ | refine op_pick_f rfl rfl (by first | with_reducible assumption | with_reducible rfl | decide) rfl ?_ | refine op_at (opD_load rfl rfl (by repeat (first | with_reducible assumption | (with_reducible refine obj_here ?_; rfl) | with_reducible exact obj_set | (with_reducible refine obj_skip ?_ ?_; · ((try simp only [DH.new_next, DH.set_next]); omega)) | (with_reducible refine obj_past ?_ ?_; · ((try simp only [DH.new_next, DH.set_next]); omega)) | exact obj_here rfl | exact obj_set)) rfl rfl) ?_ | refine op_at (opD_store rfl rfl rfl rfl rfl (by repeat (first | with_reducible assumption | (with_reducible refine obj_here ?_; rfl) | with_reducible exact obj_set | (with_reducible refine obj_skip ?_ ?_; · ((try simp only [DH.new_next, DH.set_next]); omega)) | (with_reducible refine obj_past ?_ ?_; · ((try simp only [DH.new_next, DH.set_next]); omega)) | exact obj_here rfl | exact obj_set)) rfl) ?_ | refine op_at (opD_eqb rfl rfl rfl rfl) ?_ | refine op_at (opD_neqb rfl rfl rfl rfl) ?_ | refine op_at rfl ?_); (all_goals try dsimp only [putD, DV.cells, DH.new_next, DH.set_next, List.length_cons, List.length_nil, Nat.reduceAdd, List.set_cons_zero, List.set_cons_succ, getD_zero, getD_succ, fieldAt_zero, fieldAt_succ, thenD, blockD, retR]))
    | (refine ops_on rfl rfl (by first | with_reducible assumption | with_reducible rfl | decide) ?_; (first | (refine op_call rfl rfl rfl ?_; refine enter rfl Try.func83 rfl Try.ntmps83 rfl ?_; dsimp only [List.cons_append, List.nil_append, List.length_cons, List.length_nil, List.replicate_succ, List.replicate_zero, Nat.reduceAdd, Nat.reduceSub]) | (refine op_call rfl rfl rfl ?_; refine enter rfl Try.func98 rfl Try.ntmps98 rfl ?_; dsimp only [List.cons_append, List.nil_append, List.length_cons, List.length_nil, List.replicate_succ, List.replicate_zero, Nat.reduceAdd, Nat.reduceSub]) | (refine op_call rfl rfl rfl ?_; refine enter rfl Try.func84 rfl Try.ntmps84 rfl ?_; dsimp only [List.cons_append, List.nil_append, List.length_cons, List.length_nil, List.replicate_succ, List.replicate_zero, Nat.reduceAdd, Nat.reduceSub]) | refine op_pick_t rfl rfl (by first | with_reducible assumption | with_reducible rfl | decide) rfl ?_ | refine op_pick_f rfl rfl (by first | with_reducible assumption | with_reducible rfl | decide) rfl ?_ | refine op_at (opD_load rfl rfl (by repeat (first | with_reducible assumption | (with_reducible refine obj_here ?_; rfl) | with_reducible exact obj_set | (with_reducible refine obj_skip ?_ ?_; · ((try simp only [DH.new_next, DH.set_next]); omega)) | (with_reducible refine obj_past ?_ ?_; · ((try simp only [DH.new_next, DH.set_next]); omega)) | exact obj_here rfl | exact obj_set)) rfl rfl) ?_ | refine op_at (opD_store rfl rfl rfl rfl rfl (by repeat (first | with_reducible assumption | (with_reducible refine obj_here ?_; rfl) | with_reducible exact obj_set | (with_reducible refine obj_skip ?_ ?_; · ((try simp only [DH.new_next, DH.set_next]); omega)) | (with_reducible refine obj_past ?_ ?_; · ((try simp only [DH.new_next, DH.set_next]); omega)) | exact obj_here rfl | exact obj_set)) rfl) ?_ | refine op_at (opD_eqb rfl rfl rfl rfl) ?_ | refine op_at (opD_neqb rfl rfl rfl rfl) ?_ | refine op_at rfl ?_); (all_goals try dsimp only [putD, DV.cells, DH.new_next, DH.set_next, List.length_cons, List.length_nil, Nat.reduceAdd, List.set_cons_zero, List.set_cons_succ, getD_zero, getD_succ, fieldAt_zero, fieldAt_succ, thenD, blockD, retR]))
    | (refine ops_off1 rfl rfl (by first | with_reducible assumption | with_reducible rfl | decide) ?_; (all_goals try dsimp only [putD, DV.cells, DH.new_next, DH.set_next, List.length_cons, List.length_nil, Nat.reduceAdd, List.set_cons_zero, List.set_cons_succ, getD_zero, getD_succ, fieldAt_zero, fieldAt_succ, thenD, blockD, retR]))
    | (refine ops_off0 rfl rfl (by first | with_reducible assumption | with_reducible rfl | decide) ?_; (all_goals try dsimp only [putD, DV.cells, DH.new_next, DH.set_next, List.length_cons, List.length_nil, Nat.reduceAdd, List.set_cons_zero, List.set_cons_succ, getD_zero, getD_succ, fieldAt_zero, fieldAt_succ, thenD, blockD, retR]))
    | (refine ops_offn rfl rfl ?_; (all_goals try dsimp only [putD, DV.cells, DH.new_next, DH.set_next, List.length_cons, List.length_nil, Nat.reduceAdd, List.set_cons_zero, List.set_cons_succ, getD_zero, getD_succ, fieldAt_zero, fieldAt_succ, thenD, blockD, retR]))
    | (refine ops_split1 rfl rfl ?_ ?_ <;> intro hb)
    | (refine ops_split0 rfl rfl ?_ ?_ <;> intro hb)
    | ((first | (refine op_call rfl rfl rfl ?_; refine enter rfl Try.func83 rfl Try.ntmps83 rfl ?_; dsimp only [List.cons_append, List.nil_append, List.length_cons, List.length_nil, List.replicate_succ, List.replicate_zero, Nat.reduceAdd, Nat.reduceSub]) | (refine op_call rfl rfl rfl ?_; refine enter rfl Try.func98 rfl Try.ntmps98 rfl ?_; dsimp only [List.cons_append, List.nil_append, List.length_cons, List.length_nil, List.replicate_succ, List.replicate_zero, Nat.reduceAdd, Nat.reduceSub]) | (refine op_call rfl rfl rfl ?_; refine enter rfl Try.func84 rfl Try.ntmps84 rfl ?_; dsimp only [List.cons_append, List.nil_append, List.length_cons, List.length_nil, List.replicate_succ, List.replicate_zero, Nat.reduceAdd, Nat.reduceSub]) | refine op_pick_t rfl rfl (by first | with_reducible assumption | with_reducible rfl | decide) rfl ?_ | refine op_pick_f rfl rfl (by first | with_reducible assumption | with_reducible rfl | decide) rfl ?_ | refine op_at (opD_load rfl rfl (by repeat (first | with_reducible assumption | (with_reducible refine obj_here ?_; rfl) | with_reducible exact obj_set | (with_reducible refine obj_skip ?_ ?_; · ((try simp only [DH.new_next, DH.set_next]); omega)) | (with_reducible refine obj_past ?_ ?_; · ((try simp only [DH.new_next, DH.set_next]); omega)) | exact obj_here rfl | exact obj_set)) rfl rfl) ?_ | refine op_at (opD_store rfl rfl rfl rfl rfl (by repeat (first | with_reducible assumption | (with_reducible refine obj_here ?_; rfl) | with_reducible exact obj_set | (with_reducible refine obj_skip ?_ ?_; · ((try simp only [DH.new_next, DH.set_next]); omega)) | (with_reducible refine obj_past ?_ ?_; · ((try simp only [DH.new_next, DH.set_next]); omega)) | exact obj_here rfl | exact obj_set)) rfl) ?_ | refine op_at (opD_eqb rfl rfl rfl rfl) ?_ | refine op_at (opD_neqb rfl rfl rfl rfl) ?_ | refine op_at rfl ?_); (all_goals try dsimp only [putD, DV.cells, DH.new_next, DH.set_next, List.length_cons, List.length_nil, Nat.reduceAdd, List.set_cons_zero, List.set_cons_succ, getD_zero, getD_succ, fieldAt_zero, fieldAt_succ, thenD, blockD, retR]))
    | refine dwp_drawc _ rfl ?_
    | refine drawc_nil ?_
    | (refine drawc_pick_t (by first | exact wanted_plain rfl | exact wanted_on rfl rfl (by first | with_reducible assumption | with_reducible rfl | decide)) rfl rfl (by first | with_reducible assumption | with_reducible rfl | decide) rfl ?_; (all_goals try dsimp only [putD, DV.cells, DH.new_next, DH.set_next, List.length_cons, List.length_nil, Nat.reduceAdd, List.set_cons_zero, List.set_cons_succ, getD_zero, getD_succ, fieldAt_zero, fieldAt_succ, thenD, blockD, retR]))
    | (refine drawc_pick_f (by first | exact wanted_plain rfl | exact wanted_on rfl rfl (by first | with_reducible assumption | with_reducible rfl | decide)) rfl rfl (by first | with_reducible assumption | with_reducible rfl | decide) rfl ?_; (all_goals try dsimp only [putD, DV.cells, DH.new_next, DH.set_next, List.length_cons, List.length_nil, Nat.reduceAdd, List.set_cons_zero, List.set_cons_succ, getD_zero, getD_succ, fieldAt_zero, fieldAt_succ, thenD, blockD, retR]))
    | (refine drawc_pure (by first | exact wanted_plain rfl | exact wanted_on rfl rfl (by first | with_reducible assumption | with_reducible rfl | decide)) rfl rfl rfl ?_; (all_goals try dsimp only [putD, DV.cells, DH.new_next, DH.set_next, List.length_cons, List.length_nil, Nat.reduceAdd, List.set_cons_zero, List.set_cons_succ, getD_zero, getD_succ, fieldAt_zero, fieldAt_succ, thenD, blockD, retR]))
    | (refine drawc_read (by first | exact wanted_plain rfl | exact wanted_on rfl rfl (by first | with_reducible assumption | with_reducible rfl | decide)) rfl rfl (by kernel_rfl) (opD_load rfl rfl (by repeat (first | with_reducible assumption | (with_reducible refine obj_here ?_; rfl) | with_reducible exact obj_set | (with_reducible refine obj_skip ?_ ?_; · ((try simp only [DH.new_next, DH.set_next]); omega)) | (with_reducible refine obj_past ?_ ?_; · ((try simp only [DH.new_next, DH.set_next]); omega)) | exact obj_here rfl | exact obj_set)) rfl rfl) ?_; (all_goals try dsimp only [putD, DV.cells, DH.new_next, DH.set_next, List.length_cons, List.length_nil, Nat.reduceAdd, List.set_cons_zero, List.set_cons_succ, getD_zero, getD_succ, fieldAt_zero, fieldAt_succ, thenD, blockD, retR]))
    | (refine drawc_read (by first | exact wanted_plain rfl | exact wanted_on rfl rfl (by first | with_reducible assumption | with_reducible rfl | decide)) rfl rfl (by kernel_rfl) rfl ?_; (all_goals try dsimp only [putD, DV.cells, DH.new_next, DH.set_next, List.length_cons, List.length_nil, Nat.reduceAdd, List.set_cons_zero, List.set_cons_succ, getD_zero, getD_succ, fieldAt_zero, fieldAt_succ, thenD, blockD, retR]))
    | (refine drawc_same (by first | exact wanted_plain rfl | exact wanted_on rfl rfl (by first | with_reducible assumption | with_reducible rfl | decide)) rfl (by kernel_rfl) ?_; (first | (refine op_call rfl rfl rfl ?_; refine enter rfl Try.func83 rfl Try.ntmps83 rfl ?_; dsimp only [List.cons_append, List.nil_append, List.length_cons, List.length_nil, List.replicate_succ, List.replicate_zero, Nat.reduceAdd, Nat.reduceSub]; refine ⟨rfl, ?_⟩) | (refine op_call rfl rfl rfl ?_; refine enter rfl Try.func98 rfl Try.ntmps98 rfl ?_; dsimp only [List.cons_append, List.nil_append, List.length_cons, List.length_nil, List.replicate_succ, List.replicate_zero, Nat.reduceAdd, Nat.reduceSub]; refine ⟨rfl, ?_⟩) | (refine op_call rfl rfl rfl ?_; refine enter rfl Try.func84 rfl Try.ntmps84 rfl ?_; dsimp only [List.cons_append, List.nil_append, List.length_cons, List.length_nil, List.replicate_succ, List.replicate_zero, Nat.reduceAdd, Nat.reduceSub]; refine ⟨rfl, ?_⟩)); (all_goals try dsimp only [putD, DV.cells, DH.new_next, DH.set_next, List.length_cons, List.length_nil, Nat.reduceAdd, List.set_cons_zero, List.set_cons_succ, getD_zero, getD_succ, fieldAt_zero, fieldAt_succ, thenD, blockD, retR]))
    | (refine drawc_sync (by first | exact wanted_plain rfl | exact wanted_on rfl rfl (by first | with_reducible assumption | with_reducible rfl | decide)) rfl (by kernel_rfl) ?_; (first | (refine op_call rfl rfl rfl ?_; refine enter rfl Try.func83 rfl Try.ntmps83 rfl ?_; dsimp only [List.cons_append, List.nil_append, List.length_cons, List.length_nil, List.replicate_succ, List.replicate_zero, Nat.reduceAdd, Nat.reduceSub]) | (refine op_call rfl rfl rfl ?_; refine enter rfl Try.func98 rfl Try.ntmps98 rfl ?_; dsimp only [List.cons_append, List.nil_append, List.length_cons, List.length_nil, List.replicate_succ, List.replicate_zero, Nat.reduceAdd, Nat.reduceSub]) | (refine op_call rfl rfl rfl ?_; refine enter rfl Try.func84 rfl Try.ntmps84 rfl ?_; dsimp only [List.cons_append, List.nil_append, List.length_cons, List.length_nil, List.replicate_succ, List.replicate_zero, Nat.reduceAdd, Nat.reduceSub]) | refine op_pick_t rfl rfl (by first | with_reducible assumption | with_reducible rfl | decide) rfl ?_ | refine op_pick_f rfl rfl (by first | with_reducible assumption | with_reducible rfl | decide) rfl ?_ | refine op_at (opD_load rfl rfl (by repeat (first | with_reducible assumption | (with_reducible refine obj_here ?_; rfl) | with_reducible exact obj_set | (with_reducible refine obj_skip ?_ ?_; · ((try simp only [DH.new_next, DH.set_next]); omega)) | (with_reducible refine obj_past ?_ ?_; · ((try simp only [DH.new_next, DH.set_next]); omega)) | exact obj_here rfl | exact obj_set)) rfl rfl) ?_ | refine op_at (opD_store rfl rfl rfl rfl rfl (by repeat (first | with_reducible assumption | (with_reducible refine obj_here ?_; rfl) | with_reducible exact obj_set | (with_reducible refine obj_skip ?_ ?_; · ((try simp only [DH.new_next, DH.set_next]); omega)) | (with_reducible refine obj_past ?_ ?_; · ((try simp only [DH.new_next, DH.set_next]); omega)) | exact obj_here rfl | exact obj_set)) rfl) ?_ | refine op_at (opD_eqb rfl rfl rfl rfl) ?_ | refine op_at (opD_neqb rfl rfl rfl rfl) ?_ | refine op_at rfl ?_); (all_goals try dsimp only [putD, DV.cells, DH.new_next, DH.set_next, List.length_cons, List.length_nil, Nat.reduceAdd, List.set_cons_zero, List.set_cons_succ, getD_zero, getD_succ, fieldAt_zero, fieldAt_succ, thenD, blockD, retR]))
    | (refine drawc_off (by first | exact wanted_off1 rfl rfl (by first | with_reducible assumption | with_reducible rfl | decide) | exact wanted_off0 rfl rfl (by first | with_reducible assumption | with_reducible rfl | decide) | exact wanted_none rfl rfl) ?_; (all_goals try dsimp only [putD, DV.cells, DH.new_next, DH.set_next, List.length_cons, List.length_nil, Nat.reduceAdd, List.set_cons_zero, List.set_cons_succ, getD_zero, getD_succ, fieldAt_zero, fieldAt_succ, thenD, blockD, retR]))
    | refine dwp_cond_t rfl (by first | with_reducible assumption | with_reducible rfl | decide) ?_
    | refine dwp_cond_f rfl (by first | with_reducible assumption | with_reducible rfl | decide) ?_
    | (refine dwp_cond rfl ?_ ?_ <;> intro hb)
    | refine dwp_block ?_
    | refine dwp_skip ?_
    | refine dwp_ret ?_
    | refine dwp_exit ?_
    | dsimp only [thenD, blockD, retR]
    | (refine ⟨_, rfl, ?_⟩; try dsimp only)
    | fail)
  all_goals refine ⟨?_, rfl⟩
  all_goals dsimp only [getD_zero, getD_succ]
  all_goals refine congrArg DV.bool ?_
  all_goals rw [Bool.eq_iff_iff]
  all_goals simp only [okT, wrap1, Bool.and_eq_true, decide_eq_true_eq, Bool.not_eq_true', decide_eq_false_iff_not] at *
  all_goals omega
theorem may2 (H : DH) (l : Nat) (ro : Bool) (x y : Int) (ho : H.obj l = some (.rows ro 1 [[.int .i64 x], [.int .i64 y]])) : CallWp Try.prog X0 72 [.sl (some (l, 0, 1)) 2 2 true] H (fun r H' => r = .bool (okT x && okT y) ∧ H' = H) := by
  refine enter rfl Try.func72 rfl Try.ntmps72 rfl ?_
  dsimp only [List.cons_append, List.nil_append, List.length_cons, List.length_nil, List.replicate_succ, List.replicate_zero, Nat.reduceAdd, Nat.reduceSub]
  repeat' (first
    | refine dwp_seq ?_
    | refine dwp_region ?_
    | refine ops_nil ?_
    | refine dwp_round ?_
    | (refine ops_plain rfl ?_; (first | (refine op_call rfl rfl rfl ?_; refine enter rfl Try.func83 rfl Try.ntmps83 rfl ?_; dsimp only [List.cons_append, List.nil_append, List.length_cons, List.length_nil, List.replicate_succ, List.replicate_zero, Nat.reduceAdd, Nat.reduceSub]) | (refine op_call rfl rfl rfl ?_; refine enter rfl Try.func98 rfl Try.ntmps98 rfl ?_; dsimp only [List.cons_append, List.nil_append, List.length_cons, List.length_nil, List.replicate_succ, List.replicate_zero, Nat.reduceAdd, Nat.reduceSub]) | (refine op_call rfl rfl rfl ?_; refine enter rfl Try.func84 rfl Try.ntmps84 rfl ?_; dsimp only [List.cons_append, List.nil_append, List.length_cons, List.length_nil, List.replicate_succ, List.replicate_zero, Nat.reduceAdd, Nat.reduceSub]) | refine op_pick_t rfl rfl (by first | with_reducible assumption | with_reducible rfl | decide) rfl ?_ | refine op_pick_f rfl rfl (by first | with_reducible assumption | with_reducible rfl | decide) rfl ?_ | refine op_at (opD_load rfl rfl (by repeat (first | with_reducible assumption | (with_reducible refine obj_here ?_; rfl) | with_reducible exact obj_set | (with_reducible refine obj_skip ?_ ?_; · ((try simp only [DH.new_next, DH.set_next]); omega)) | (with_reducible refine obj_past ?_ ?_; · ((try simp only [DH.new_next, DH.set_next]); omega)) | exact obj_here rfl | exact obj_set)) rfl rfl) ?_ | refine op_at (opD_store rfl rfl rfl rfl rfl (by repeat (first | with_reducible assumption | (with_reducible refine obj_here ?_; rfl) | with_reducible exact obj_set | (with_reducible refine obj_skip ?_ ?_; · ((try simp only [DH.new_next, DH.set_next]); omega)) | (with_reducible refine obj_past ?_ ?_; · ((try simp only [DH.new_next, DH.set_next]); omega)) | exact obj_here rfl | exact obj_set)) rfl) ?_ | refine op_at (opD_eqb rfl rfl rfl rfl) ?_ | refine op_at (opD_neqb rfl rfl rfl rfl) ?_ | refine op_at rfl ?_); (all_goals try dsimp only [putD, DV.cells, DH.new_next, DH.set_next, List.length_cons, List.length_nil, Nat.reduceAdd, List.set_cons_zero, List.set_cons_succ, getD_zero, getD_succ, fieldAt_zero, fieldAt_succ, thenD, blockD, retR]))
    | (refine ops_on rfl rfl (by first | with_reducible assumption | with_reducible rfl | decide) ?_; (first | (refine op_call rfl rfl rfl ?_; refine enter rfl Try.func83 rfl Try.ntmps83 rfl ?_; dsimp only [List.cons_append, List.nil_append, List.length_cons, List.length_nil, List.replicate_succ, List.replicate_zero, Nat.reduceAdd, Nat.reduceSub]) | (refine op_call rfl rfl rfl ?_; refine enter rfl Try.func98 rfl Try.ntmps98 rfl ?_; dsimp only [List.cons_append, List.nil_append, List.length_cons, List.length_nil, List.replicate_succ, List.replicate_zero, Nat.reduceAdd, Nat.reduceSub]) | (refine op_call rfl rfl rfl ?_; refine enter rfl Try.func84 rfl Try.ntmps84 rfl ?_; dsimp only [List.cons_append, List.nil_append, List.length_cons, List.length_nil, List.replicate_succ, List.replicate_zero, Nat.reduceAdd, Nat.reduceSub]) | refine op_pick_t rfl rfl (by first | with_reducible assumption | with_reducible rfl | decide) rfl ?_ | refine op_pick_f rfl rfl (by first | with_reducible assumption | with_reducible rfl | decide) rfl ?_ | refine op_at (opD_load rfl rfl (by repeat (first | with_reducible assumption | (with_reducible refine obj_here ?_; rfl) | with_reducible exact obj_set | (with_reducible refine obj_skip ?_ ?_; · ((try simp only [DH.new_next, DH.set_next]); omega)) | (with_reducible refine obj_past ?_ ?_; · ((try simp only [DH.new_next, DH.set_next]); omega)) | exact obj_here rfl | exact obj_set)) rfl rfl) ?_ | refine op_at (opD_store rfl rfl rfl rfl rfl (by repeat (first | with_reducible assumption | (with_reducible refine obj_here ?_; rfl) | with_reducible exact obj_set | (with_reducible refine obj_skip ?_ ?_; · ((try simp only [DH.new_next, DH.set_next]); omega)) | (with_reducible refine obj_past ?_ ?_; · ((try simp only [DH.new_next, DH.set_next]); omega)) | exact obj_here rfl | exact obj_set)) rfl) ?_ | refine op_at (opD_eqb rfl rfl rfl rfl) ?_ | refine op_at (opD_neqb rfl rfl rfl rfl) ?_ | refine op_at rfl ?_); (all_goals try dsimp only [putD, DV.cells, DH.new_next, DH.set_next, List.length_cons, List.length_nil, Nat.reduceAdd, List.set_cons_zero, List.set_cons_succ, getD_zero, getD_succ, fieldAt_zero, fieldAt_succ, thenD, blockD, retR]))
    | (refine ops_off1 rfl rfl (by first | with_reducible assumption | with_reducible rfl | decide) ?_; (all_goals try dsimp only [putD, DV.cells, DH.new_next, DH.set_next, List.length_cons, List.length_nil, Nat.reduceAdd, List.set_cons_zero, List.set_cons_succ, getD_zero, getD_succ, fieldAt_zero, fieldAt_succ, thenD, blockD, retR]))
    | (refine ops_off0 rfl rfl (by first | with_reducible assumption | with_reducible rfl | decide) ?_; (all_goals try dsimp only [putD, DV.cells, DH.new_next, DH.set_next, List.length_cons, List.length_nil, Nat.reduceAdd, List.set_cons_zero, List.set_cons_succ, getD_zero, getD_succ, fieldAt_zero, fieldAt_succ, thenD, blockD, retR]))
    | (refine ops_offn rfl rfl ?_; (all_goals try dsimp only [putD, DV.cells, DH.new_next, DH.set_next, List.length_cons, List.length_nil, Nat.reduceAdd, List.set_cons_zero, List.set_cons_succ, getD_zero, getD_succ, fieldAt_zero, fieldAt_succ, thenD, blockD, retR]))
    | (refine ops_split1 rfl rfl ?_ ?_ <;> intro hb)
    | (refine ops_split0 rfl rfl ?_ ?_ <;> intro hb)
    | ((first | (refine op_call rfl rfl rfl ?_; refine enter rfl Try.func83 rfl Try.ntmps83 rfl ?_; dsimp only [List.cons_append, List.nil_append, List.length_cons, List.length_nil, List.replicate_succ, List.replicate_zero, Nat.reduceAdd, Nat.reduceSub]) | (refine op_call rfl rfl rfl ?_; refine enter rfl Try.func98 rfl Try.ntmps98 rfl ?_; dsimp only [List.cons_append, List.nil_append, List.length_cons, List.length_nil, List.replicate_succ, List.replicate_zero, Nat.reduceAdd, Nat.reduceSub]) | (refine op_call rfl rfl rfl ?_; refine enter rfl Try.func84 rfl Try.ntmps84 rfl ?_; dsimp only [List.cons_append, List.nil_append, List.length_cons, List.length_nil, List.replicate_succ, List.replicate_zero, Nat.reduceAdd, Nat.reduceSub]) | refine op_pick_t rfl rfl (by first | with_reducible assumption | with_reducible rfl | decide) rfl ?_ | refine op_pick_f rfl rfl (by first | with_reducible assumption | with_reducible rfl | decide) rfl ?_ | refine op_at (opD_load rfl rfl (by repeat (first | with_reducible assumption | (with_reducible refine obj_here ?_; rfl) | with_reducible exact obj_set | (with_reducible refine obj_skip ?_ ?_; · ((try simp only [DH.new_next, DH.set_next]); omega)) | (with_reducible refine obj_past ?_ ?_; · ((try simp only [DH.new_next, DH.set_next]); omega)) | exact obj_here rfl | exact obj_set)) rfl rfl) ?_ | refine op_at (opD_store rfl rfl rfl rfl rfl (by repeat (first | with_reducible assumption | (with_reducible refine obj_here ?_; rfl) | with_reducible exact obj_set | (with_reducible refine obj_skip ?_ ?_; · ((try simp only [DH.new_next, DH.set_next]); omega)) | (with_reducible refine obj_past ?_ ?_; · ((try simp only [DH.new_next, DH.set_next]); omega)) | exact obj_here rfl | exact obj_set)) rfl) ?_ | refine op_at (opD_eqb rfl rfl rfl rfl) ?_ | refine op_at (opD_neqb rfl rfl rfl rfl) ?_ | refine op_at rfl ?_); (all_goals try dsimp only [putD, DV.cells, DH.new_next, DH.set_next, List.length_cons, List.length_nil, Nat.reduceAdd, List.set_cons_zero, List.set_cons_succ, getD_zero, getD_succ, fieldAt_zero, fieldAt_succ, thenD, blockD, retR]))
    | refine dwp_drawc _ rfl ?_
    | refine drawc_nil ?_
    | (refine drawc_pick_t (by first | exact wanted_plain rfl | exact wanted_on rfl rfl (by first | with_reducible assumption | with_reducible rfl | decide)) rfl rfl (by first | with_reducible assumption | with_reducible rfl | decide) rfl ?_; (all_goals try dsimp only [putD, DV.cells, DH.new_next, DH.set_next, List.length_cons, List.length_nil, Nat.reduceAdd, List.set_cons_zero, List.set_cons_succ, getD_zero, getD_succ, fieldAt_zero, fieldAt_succ, thenD, blockD, retR]))
    | (refine drawc_pick_f (by first | exact wanted_plain rfl | exact wanted_on rfl rfl (by first | with_reducible assumption | with_reducible rfl | decide)) rfl rfl (by first | with_reducible assumption | with_reducible rfl | decide) rfl ?_; (all_goals try dsimp only [putD, DV.cells, DH.new_next, DH.set_next, List.length_cons, List.length_nil, Nat.reduceAdd, List.set_cons_zero, List.set_cons_succ, getD_zero, getD_succ, fieldAt_zero, fieldAt_succ, thenD, blockD, retR]))
    | (refine drawc_pure (by first | exact wanted_plain rfl | exact wanted_on rfl rfl (by first | with_reducible assumption | with_reducible rfl | decide)) rfl rfl rfl ?_; (all_goals try dsimp only [putD, DV.cells, DH.new_next, DH.set_next, List.length_cons, List.length_nil, Nat.reduceAdd, List.set_cons_zero, List.set_cons_succ, getD_zero, getD_succ, fieldAt_zero, fieldAt_succ, thenD, blockD, retR]))
    | (refine drawc_read (by first | exact wanted_plain rfl | exact wanted_on rfl rfl (by first | with_reducible assumption | with_reducible rfl | decide)) rfl rfl (by kernel_rfl) (opD_load rfl rfl (by repeat (first | with_reducible assumption | (with_reducible refine obj_here ?_; rfl) | with_reducible exact obj_set | (with_reducible refine obj_skip ?_ ?_; · ((try simp only [DH.new_next, DH.set_next]); omega)) | (with_reducible refine obj_past ?_ ?_; · ((try simp only [DH.new_next, DH.set_next]); omega)) | exact obj_here rfl | exact obj_set)) rfl rfl) ?_; (all_goals try dsimp only [putD, DV.cells, DH.new_next, DH.set_next, List.length_cons, List.length_nil, Nat.reduceAdd, List.set_cons_zero, List.set_cons_succ, getD_zero, getD_succ, fieldAt_zero, fieldAt_succ, thenD, blockD, retR]))
    | (refine drawc_read (by first | exact wanted_plain rfl | exact wanted_on rfl rfl (by first | with_reducible assumption | with_reducible rfl | decide)) rfl rfl (by kernel_rfl) rfl ?_; (all_goals try dsimp only [putD, DV.cells, DH.new_next, DH.set_next, List.length_cons, List.length_nil, Nat.reduceAdd, List.set_cons_zero, List.set_cons_succ, getD_zero, getD_succ, fieldAt_zero, fieldAt_succ, thenD, blockD, retR]))
    | (refine drawc_same (by first | exact wanted_plain rfl | exact wanted_on rfl rfl (by first | with_reducible assumption | with_reducible rfl | decide)) rfl (by kernel_rfl) ?_; (first | (refine op_call rfl rfl rfl ?_; refine enter rfl Try.func83 rfl Try.ntmps83 rfl ?_; dsimp only [List.cons_append, List.nil_append, List.length_cons, List.length_nil, List.replicate_succ, List.replicate_zero, Nat.reduceAdd, Nat.reduceSub]; refine ⟨rfl, ?_⟩) | (refine op_call rfl rfl rfl ?_; refine enter rfl Try.func98 rfl Try.ntmps98 rfl ?_; dsimp only [List.cons_append, List.nil_append, List.length_cons, List.length_nil, List.replicate_succ, List.replicate_zero, Nat.reduceAdd, Nat.reduceSub]; refine ⟨rfl, ?_⟩) | (refine op_call rfl rfl rfl ?_; refine enter rfl Try.func84 rfl Try.ntmps84 rfl ?_; dsimp only [List.cons_append, List.nil_append, List.length_cons, List.length_nil, List.replicate_succ, List.replicate_zero, Nat.reduceAdd, Nat.reduceSub]; refine ⟨rfl, ?_⟩)); (all_goals try dsimp only [putD, DV.cells, DH.new_next, DH.set_next, List.length_cons, List.length_nil, Nat.reduceAdd, List.set_cons_zero, List.set_cons_succ, getD_zero, getD_succ, fieldAt_zero, fieldAt_succ, thenD, blockD, retR]))
    | (refine drawc_sync (by first | exact wanted_plain rfl | exact wanted_on rfl rfl (by first | with_reducible assumption | with_reducible rfl | decide)) rfl (by kernel_rfl) ?_; (first | (refine op_call rfl rfl rfl ?_; refine enter rfl Try.func83 rfl Try.ntmps83 rfl ?_; dsimp only [List.cons_append, List.nil_append, List.length_cons, List.length_nil, List.replicate_succ, List.replicate_zero, Nat.reduceAdd, Nat.reduceSub]) | (refine op_call rfl rfl rfl ?_; refine enter rfl Try.func98 rfl Try.ntmps98 rfl ?_; dsimp only [List.cons_append, List.nil_append, List.length_cons, List.length_nil, List.replicate_succ, List.replicate_zero, Nat.reduceAdd, Nat.reduceSub]) | (refine op_call rfl rfl rfl ?_; refine enter rfl Try.func84 rfl Try.ntmps84 rfl ?_; dsimp only [List.cons_append, List.nil_append, List.length_cons, List.length_nil, List.replicate_succ, List.replicate_zero, Nat.reduceAdd, Nat.reduceSub]) | refine op_pick_t rfl rfl (by first | with_reducible assumption | with_reducible rfl | decide) rfl ?_ | refine op_pick_f rfl rfl (by first | with_reducible assumption | with_reducible rfl | decide) rfl ?_ | refine op_at (opD_load rfl rfl (by repeat (first | with_reducible assumption | (with_reducible refine obj_here ?_; rfl) | with_reducible exact obj_set | (with_reducible refine obj_skip ?_ ?_; · ((try simp only [DH.new_next, DH.set_next]); omega)) | (with_reducible refine obj_past ?_ ?_; · ((try simp only [DH.new_next, DH.set_next]); omega)) | exact obj_here rfl | exact obj_set)) rfl rfl) ?_ | refine op_at (opD_store rfl rfl rfl rfl rfl (by repeat (first | with_reducible assumption | (with_reducible refine obj_here ?_; rfl) | with_reducible exact obj_set | (with_reducible refine obj_skip ?_ ?_; · ((try simp only [DH.new_next, DH.set_next]); omega)) | (with_reducible refine obj_past ?_ ?_; · ((try simp only [DH.new_next, DH.set_next]); omega)) | exact obj_here rfl | exact obj_set)) rfl) ?_ | refine op_at (opD_eqb rfl rfl rfl rfl) ?_ | refine op_at (opD_neqb rfl rfl rfl rfl) ?_ | refine op_at rfl ?_); (all_goals try dsimp only [putD, DV.cells, DH.new_next, DH.set_next, List.length_cons, List.length_nil, Nat.reduceAdd, List.set_cons_zero, List.set_cons_succ, getD_zero, getD_succ, fieldAt_zero, fieldAt_succ, thenD, blockD, retR]))
    | (refine drawc_off (by first | exact wanted_off1 rfl rfl (by first | with_reducible assumption | with_reducible rfl | decide) | exact wanted_off0 rfl rfl (by first | with_reducible assumption | with_reducible rfl | decide) | exact wanted_none rfl rfl) ?_; (all_goals try dsimp only [putD, DV.cells, DH.new_next, DH.set_next, List.length_cons, List.length_nil, Nat.reduceAdd, List.set_cons_zero, List.set_cons_succ, getD_zero, getD_succ, fieldAt_zero, fieldAt_succ, thenD, blockD, retR]))
    | refine dwp_cond_t rfl (by first | with_reducible assumption | with_reducible rfl | decide) ?_
    | refine dwp_cond_f rfl (by first | with_reducible assumption | with_reducible rfl | decide) ?_
    | (refine dwp_cond rfl ?_ ?_ <;> intro hb)
    | refine dwp_block ?_
    | refine dwp_skip ?_
    | refine dwp_ret ?_
    | refine dwp_exit ?_
    | dsimp only [thenD, blockD, retR]
    | (refine ⟨_, rfl, ?_⟩; try dsimp only)
    | fail)
  all_goals refine ⟨?_, rfl⟩
  all_goals dsimp only [getD_zero, getD_succ]
  all_goals refine congrArg DV.bool ?_
  all_goals rw [Bool.eq_iff_iff]
  all_goals simp only [okT, wrap1, Bool.and_eq_true, decide_eq_true_eq, Bool.not_eq_true', decide_eq_false_iff_not] at *
  all_goals omega
def gMay : G := fun args H => match args with
  | [.sl (some (l, 0, 1)) 1 1 true] => match H.obj l with
    | some (.rows _ 1 [[.int .i64 x]]) => some (.bool (okT x), H)
    | _ => none
  | [.sl (some (l, 0, 1)) 2 2 true] => match H.obj l with
    | some (.rows _ 1 [[.int .i64 x], [.int .i64 y]]) => some (.bool (okT x && okT y), H)
    | _ => none
  | _ => none
theorem may_ok : ExtSound Try.prog gMay 72 := ext_read ok0 Try.func72 rfl rfl (by
  intro args H r H' hw h
  unfold gMay at h
  split at h
  · split at h
    · rename_i ho
      cases h
      exact ⟨rfl, rfl, (may1 H _ _ _ ho).mono fun r' H1 ⟨h1, h2⟩ => ⟨h1, h2 ▸ Above.refl H⟩⟩
    · cases h
  · split at h
    · rename_i ho
      cases h
      exact ⟨rfl, rfl, (may2 H _ _ _ _ ho).mono fun r' H1 ⟨h1, h2⟩ => ⟨h1, h2 ▸ Above.refl H⟩⟩
    · cases h
  · cases h)
def E1 : List (FuncId × G) := [(15, gLive), (72, gMay)]
theorem okE1 : ∀ f g, (f, g) ∈ E1 → ExtSound Try.prog g f := by
  intro f g h
  simp only [E1, List.mem_cons, List.not_mem_nil, or_false, Prod.mk.injEq] at h
  rcases h with ⟨rfl, rfl⟩ | ⟨rfl, rfl⟩
  · exact live_ok
  · exact may_ok
def X1 : Ext := Xof L E1
theorem ok1 : ProgOk Try.prog X1 := progOk_of mixed okL okE1
end Go.Det.M11

/- Which thing may not be on a channel; when two meet. -/
namespace Go.Det.M11
open Go Go.Det Go.Proofs
set_option maxRecDepth 4000
set_option maxHeartbeats 4000000
set_option linter.unusedVariables false
set_option linter.unusedSimpArgs false
theorem gMay_two {H : DH} {l : Nat} {ro : Bool} {x y : Int} (ho : H.obj l = some (.rows ro 1 [[.int .i64 x], [.int .i64 y]])) : gMay [.sl (some (l, 0, 1)) 2 2 true] H = some (.bool (okT x && okT y), H) := by simp only [gMay, ho]
/-- May a thing be? -/
def fitB (fr ch at_ en : Int) (n : Nat) (le : Int) : Bool :=
  decide (0 ≤ fr) && decide (fr < 16) && decide (0 ≤ ch) && decide (ch < 2) && okT at_ && okT en && decide (0 ≤ at_) && decide (at_ < en) && decide (n ≤ 64) && decide (1 ≤ le) && decide (le ≤ 16)
theorem off48 (H : DH) (i fr ch at_ en le : Int) (b : Bool) (p : Option (Nat × Nat × Nat)) (n c : Nat) (ex : Bool) : CallWp Try.prog X1 48 [.agg [.int .u64 i, .int .i64 fr, .int .i64 ch, .int .i64 at_, .int .i64 en, .sl p n c ex, .bool b, .int .i64 le]] H (fun r H' => r = .bool (!fitB fr ch at_ en n le) ∧ Above H H') := by
  refine enter rfl Try.func48 rfl Try.ntmps48 rfl ?_
  dsimp only [List.cons_append, List.nil_append, List.length_cons, List.length_nil, List.replicate_succ, List.replicate_zero, Nat.reduceAdd, Nat.reduceSub]
  repeat' (first
    | refine dwp_seq ?_
    | refine dwp_region ?_
    | refine ops_nil ?_
    | (refine ops_plain rfl ?_; (first | (refine op_call rfl rfl rfl ?_; refine call_table (g := gMay) rfl (gMay_two (by repeat (first | with_reducible assumption | (with_reducible refine obj_here ?_; rfl) | with_reducible exact obj_set | (with_reducible refine obj_skip ?_ ?_; · ((try simp only [DH.new_next, DH.set_next]); omega)) | (with_reducible refine obj_past ?_ ?_; · ((try simp only [DH.new_next, DH.set_next]); omega)) | exact obj_here rfl | exact obj_set))) ?_) | refine op_pick_t rfl rfl (by first | with_reducible assumption | with_reducible rfl | decide) rfl ?_ | refine op_pick_f rfl rfl (by first | with_reducible assumption | with_reducible rfl | decide) rfl ?_ | refine op_at (opD_load rfl rfl (by repeat (first | with_reducible assumption | (with_reducible refine obj_here ?_; rfl) | with_reducible exact obj_set | (with_reducible refine obj_skip ?_ ?_; · ((try simp only [DH.new_next, DH.set_next]); omega)) | (with_reducible refine obj_past ?_ ?_; · ((try simp only [DH.new_next, DH.set_next]); omega)) | exact obj_here rfl | exact obj_set)) rfl rfl) ?_ | refine op_at (opD_store rfl rfl rfl rfl rfl (by repeat (first | with_reducible assumption | (with_reducible refine obj_here ?_; rfl) | with_reducible exact obj_set | (with_reducible refine obj_skip ?_ ?_; · ((try simp only [DH.new_next, DH.set_next]); omega)) | (with_reducible refine obj_past ?_ ?_; · ((try simp only [DH.new_next, DH.set_next]); omega)) | exact obj_here rfl | exact obj_set)) rfl) ?_ | refine op_at (opD_eqb rfl rfl rfl rfl) ?_ | refine op_at (opD_neqb rfl rfl rfl rfl) ?_ | refine op_at rfl ?_); (all_goals try dsimp only [putD, DV.cells, DH.new_next, DH.set_next, List.length_cons, List.length_nil, Nat.reduceAdd, List.set_cons_zero, List.set_cons_succ, getD_zero, getD_succ, fieldAt_zero, fieldAt_succ, thenD, blockD, retR]))
    | (refine ops_on rfl rfl (by first | with_reducible assumption | with_reducible rfl | decide) ?_; (first | (refine op_call rfl rfl rfl ?_; refine call_table (g := gMay) rfl (gMay_two (by repeat (first | with_reducible assumption | (with_reducible refine obj_here ?_; rfl) | with_reducible exact obj_set | (with_reducible refine obj_skip ?_ ?_; · ((try simp only [DH.new_next, DH.set_next]); omega)) | (with_reducible refine obj_past ?_ ?_; · ((try simp only [DH.new_next, DH.set_next]); omega)) | exact obj_here rfl | exact obj_set))) ?_) | refine op_pick_t rfl rfl (by first | with_reducible assumption | with_reducible rfl | decide) rfl ?_ | refine op_pick_f rfl rfl (by first | with_reducible assumption | with_reducible rfl | decide) rfl ?_ | refine op_at (opD_load rfl rfl (by repeat (first | with_reducible assumption | (with_reducible refine obj_here ?_; rfl) | with_reducible exact obj_set | (with_reducible refine obj_skip ?_ ?_; · ((try simp only [DH.new_next, DH.set_next]); omega)) | (with_reducible refine obj_past ?_ ?_; · ((try simp only [DH.new_next, DH.set_next]); omega)) | exact obj_here rfl | exact obj_set)) rfl rfl) ?_ | refine op_at (opD_store rfl rfl rfl rfl rfl (by repeat (first | with_reducible assumption | (with_reducible refine obj_here ?_; rfl) | with_reducible exact obj_set | (with_reducible refine obj_skip ?_ ?_; · ((try simp only [DH.new_next, DH.set_next]); omega)) | (with_reducible refine obj_past ?_ ?_; · ((try simp only [DH.new_next, DH.set_next]); omega)) | exact obj_here rfl | exact obj_set)) rfl) ?_ | refine op_at (opD_eqb rfl rfl rfl rfl) ?_ | refine op_at (opD_neqb rfl rfl rfl rfl) ?_ | refine op_at rfl ?_); (all_goals try dsimp only [putD, DV.cells, DH.new_next, DH.set_next, List.length_cons, List.length_nil, Nat.reduceAdd, List.set_cons_zero, List.set_cons_succ, getD_zero, getD_succ, fieldAt_zero, fieldAt_succ, thenD, blockD, retR]))
    | (refine ops_off1 rfl rfl (by first | with_reducible assumption | with_reducible rfl | decide) ?_; (all_goals try dsimp only [putD, DV.cells, DH.new_next, DH.set_next, List.length_cons, List.length_nil, Nat.reduceAdd, List.set_cons_zero, List.set_cons_succ, getD_zero, getD_succ, fieldAt_zero, fieldAt_succ, thenD, blockD, retR]))
    | (refine ops_off0 rfl rfl (by first | with_reducible assumption | with_reducible rfl | decide) ?_; (all_goals try dsimp only [putD, DV.cells, DH.new_next, DH.set_next, List.length_cons, List.length_nil, Nat.reduceAdd, List.set_cons_zero, List.set_cons_succ, getD_zero, getD_succ, fieldAt_zero, fieldAt_succ, thenD, blockD, retR]))
    | (refine ops_offn rfl rfl ?_; (all_goals try dsimp only [putD, DV.cells, DH.new_next, DH.set_next, List.length_cons, List.length_nil, Nat.reduceAdd, List.set_cons_zero, List.set_cons_succ, getD_zero, getD_succ, fieldAt_zero, fieldAt_succ, thenD, blockD, retR]))
    | (refine ops_split1 rfl rfl ?_ ?_ <;> intro hb)
    | (refine ops_split0 rfl rfl ?_ ?_ <;> intro hb)
    | ((first | (refine op_call rfl rfl rfl ?_; refine call_table (g := gMay) rfl (gMay_two (by repeat (first | with_reducible assumption | (with_reducible refine obj_here ?_; rfl) | with_reducible exact obj_set | (with_reducible refine obj_skip ?_ ?_; · ((try simp only [DH.new_next, DH.set_next]); omega)) | (with_reducible refine obj_past ?_ ?_; · ((try simp only [DH.new_next, DH.set_next]); omega)) | exact obj_here rfl | exact obj_set))) ?_) | refine op_pick_t rfl rfl (by first | with_reducible assumption | with_reducible rfl | decide) rfl ?_ | refine op_pick_f rfl rfl (by first | with_reducible assumption | with_reducible rfl | decide) rfl ?_ | refine op_at (opD_load rfl rfl (by repeat (first | with_reducible assumption | (with_reducible refine obj_here ?_; rfl) | with_reducible exact obj_set | (with_reducible refine obj_skip ?_ ?_; · ((try simp only [DH.new_next, DH.set_next]); omega)) | (with_reducible refine obj_past ?_ ?_; · ((try simp only [DH.new_next, DH.set_next]); omega)) | exact obj_here rfl | exact obj_set)) rfl rfl) ?_ | refine op_at (opD_store rfl rfl rfl rfl rfl (by repeat (first | with_reducible assumption | (with_reducible refine obj_here ?_; rfl) | with_reducible exact obj_set | (with_reducible refine obj_skip ?_ ?_; · ((try simp only [DH.new_next, DH.set_next]); omega)) | (with_reducible refine obj_past ?_ ?_; · ((try simp only [DH.new_next, DH.set_next]); omega)) | exact obj_here rfl | exact obj_set)) rfl) ?_ | refine op_at (opD_eqb rfl rfl rfl rfl) ?_ | refine op_at (opD_neqb rfl rfl rfl rfl) ?_ | refine op_at rfl ?_); (all_goals try dsimp only [putD, DV.cells, DH.new_next, DH.set_next, List.length_cons, List.length_nil, Nat.reduceAdd, List.set_cons_zero, List.set_cons_succ, getD_zero, getD_succ, fieldAt_zero, fieldAt_succ, thenD, blockD, retR]))
    | refine dwp_drawc _ rfl ?_
    | refine drawc_nil ?_
    | (refine drawc_pick_t (by first | exact wanted_plain rfl | exact wanted_on rfl rfl (by first | with_reducible assumption | with_reducible rfl | decide)) rfl rfl (by first | with_reducible assumption | with_reducible rfl | decide) rfl ?_; (all_goals try dsimp only [putD, DV.cells, DH.new_next, DH.set_next, List.length_cons, List.length_nil, Nat.reduceAdd, List.set_cons_zero, List.set_cons_succ, getD_zero, getD_succ, fieldAt_zero, fieldAt_succ, thenD, blockD, retR]))
    | (refine drawc_pick_f (by first | exact wanted_plain rfl | exact wanted_on rfl rfl (by first | with_reducible assumption | with_reducible rfl | decide)) rfl rfl (by first | with_reducible assumption | with_reducible rfl | decide) rfl ?_; (all_goals try dsimp only [putD, DV.cells, DH.new_next, DH.set_next, List.length_cons, List.length_nil, Nat.reduceAdd, List.set_cons_zero, List.set_cons_succ, getD_zero, getD_succ, fieldAt_zero, fieldAt_succ, thenD, blockD, retR]))
    | (refine drawc_pure (by first | exact wanted_plain rfl | exact wanted_on rfl rfl (by first | with_reducible assumption | with_reducible rfl | decide)) rfl rfl rfl ?_; (all_goals try dsimp only [putD, DV.cells, DH.new_next, DH.set_next, List.length_cons, List.length_nil, Nat.reduceAdd, List.set_cons_zero, List.set_cons_succ, getD_zero, getD_succ, fieldAt_zero, fieldAt_succ, thenD, blockD, retR]))
    | (refine drawc_read (by first | exact wanted_plain rfl | exact wanted_on rfl rfl (by first | with_reducible assumption | with_reducible rfl | decide)) rfl rfl (by kernel_rfl) (opD_load rfl rfl (by repeat (first | with_reducible assumption | (with_reducible refine obj_here ?_; rfl) | with_reducible exact obj_set | (with_reducible refine obj_skip ?_ ?_; · ((try simp only [DH.new_next, DH.set_next]); omega)) | (with_reducible refine obj_past ?_ ?_; · ((try simp only [DH.new_next, DH.set_next]); omega)) | exact obj_here rfl | exact obj_set)) rfl rfl) ?_; (all_goals try dsimp only [putD, DV.cells, DH.new_next, DH.set_next, List.length_cons, List.length_nil, Nat.reduceAdd, List.set_cons_zero, List.set_cons_succ, getD_zero, getD_succ, fieldAt_zero, fieldAt_succ, thenD, blockD, retR]))
    | (refine drawc_read (by first | exact wanted_plain rfl | exact wanted_on rfl rfl (by first | with_reducible assumption | with_reducible rfl | decide)) rfl rfl (by kernel_rfl) rfl ?_; (all_goals try dsimp only [putD, DV.cells, DH.new_next, DH.set_next, List.length_cons, List.length_nil, Nat.reduceAdd, List.set_cons_zero, List.set_cons_succ, getD_zero, getD_succ, fieldAt_zero, fieldAt_succ, thenD, blockD, retR]))
    | (refine drawc_same (by first | exact wanted_plain rfl | exact wanted_on rfl rfl (by first | with_reducible assumption | with_reducible rfl | decide)) rfl (by kernel_rfl) ?_; (first | (refine op_call rfl rfl rfl ?_; refine call_table (g := gMay) rfl (gMay_two (by repeat (first | with_reducible assumption | (with_reducible refine obj_here ?_; rfl) | with_reducible exact obj_set | (with_reducible refine obj_skip ?_ ?_; · ((try simp only [DH.new_next, DH.set_next]); omega)) | (with_reducible refine obj_past ?_ ?_; · ((try simp only [DH.new_next, DH.set_next]); omega)) | exact obj_here rfl | exact obj_set))) ?_; refine ⟨rfl, ?_⟩)); (all_goals try dsimp only [putD, DV.cells, DH.new_next, DH.set_next, List.length_cons, List.length_nil, Nat.reduceAdd, List.set_cons_zero, List.set_cons_succ, getD_zero, getD_succ, fieldAt_zero, fieldAt_succ, thenD, blockD, retR]))
    | (refine drawc_sync (by first | exact wanted_plain rfl | exact wanted_on rfl rfl (by first | with_reducible assumption | with_reducible rfl | decide)) rfl (by kernel_rfl) ?_; (first | (refine op_call rfl rfl rfl ?_; refine call_table (g := gMay) rfl (gMay_two (by repeat (first | with_reducible assumption | (with_reducible refine obj_here ?_; rfl) | with_reducible exact obj_set | (with_reducible refine obj_skip ?_ ?_; · ((try simp only [DH.new_next, DH.set_next]); omega)) | (with_reducible refine obj_past ?_ ?_; · ((try simp only [DH.new_next, DH.set_next]); omega)) | exact obj_here rfl | exact obj_set))) ?_) | refine op_pick_t rfl rfl (by first | with_reducible assumption | with_reducible rfl | decide) rfl ?_ | refine op_pick_f rfl rfl (by first | with_reducible assumption | with_reducible rfl | decide) rfl ?_ | refine op_at (opD_load rfl rfl (by repeat (first | with_reducible assumption | (with_reducible refine obj_here ?_; rfl) | with_reducible exact obj_set | (with_reducible refine obj_skip ?_ ?_; · ((try simp only [DH.new_next, DH.set_next]); omega)) | (with_reducible refine obj_past ?_ ?_; · ((try simp only [DH.new_next, DH.set_next]); omega)) | exact obj_here rfl | exact obj_set)) rfl rfl) ?_ | refine op_at (opD_store rfl rfl rfl rfl rfl (by repeat (first | with_reducible assumption | (with_reducible refine obj_here ?_; rfl) | with_reducible exact obj_set | (with_reducible refine obj_skip ?_ ?_; · ((try simp only [DH.new_next, DH.set_next]); omega)) | (with_reducible refine obj_past ?_ ?_; · ((try simp only [DH.new_next, DH.set_next]); omega)) | exact obj_here rfl | exact obj_set)) rfl) ?_ | refine op_at (opD_eqb rfl rfl rfl rfl) ?_ | refine op_at (opD_neqb rfl rfl rfl rfl) ?_ | refine op_at rfl ?_); (all_goals try dsimp only [putD, DV.cells, DH.new_next, DH.set_next, List.length_cons, List.length_nil, Nat.reduceAdd, List.set_cons_zero, List.set_cons_succ, getD_zero, getD_succ, fieldAt_zero, fieldAt_succ, thenD, blockD, retR]))
    | (refine drawc_off (by first | exact wanted_off1 rfl rfl (by first | with_reducible assumption | with_reducible rfl | decide) | exact wanted_off0 rfl rfl (by first | with_reducible assumption | with_reducible rfl | decide) | exact wanted_none rfl rfl) ?_; (all_goals try dsimp only [putD, DV.cells, DH.new_next, DH.set_next, List.length_cons, List.length_nil, Nat.reduceAdd, List.set_cons_zero, List.set_cons_succ, getD_zero, getD_succ, fieldAt_zero, fieldAt_succ, thenD, blockD, retR]))
    | refine dwp_cond_t rfl (by first | with_reducible assumption | with_reducible rfl | decide) ?_
    | refine dwp_cond_f rfl (by first | with_reducible assumption | with_reducible rfl | decide) ?_
    | (refine dwp_cond rfl ?_ ?_ <;> intro hb)
    | refine dwp_block ?_
    | refine dwp_skip ?_
    | refine dwp_ret ?_
    | refine dwp_exit ?_
    | dsimp only [thenD, blockD, retR]
    | (refine ⟨_, rfl, ?_⟩; try dsimp only)
    | fail)
  all_goals refine ⟨?_, by first | exact ((Above.refl H).new _).new _ | exact (Above.refl H).new _⟩
  all_goals dsimp only [getD_zero, getD_succ]
  all_goals refine congrArg DV.bool ?_
  all_goals rw [Bool.eq_iff_iff]
  all_goals simp only [eq_self, true_iff, Bool.false_eq_true, false_iff, fitB, okT, Bool.and_eq_true, Bool.not_eq_true', Bool.not_eq_false', Bool.and_eq_false_iff, decide_eq_true_eq, decide_eq_false_iff_not] at *
  all_goals omega
def gOff : G := fun args H => match args with
  | [.agg [.int .u64 _, .int .i64 fr, .int .i64 ch, .int .i64 at_, .int .i64 en, .sl _ n _ _, .bool _, .int .i64 le]] => some (.bool (!fitB fr ch at_ en n le), H)
  | _ => none
theorem off_ok : ExtSound Try.prog gOff 48 := ext_read ok1 Try.func48 rfl rfl (by
  intro args H r H' hw h
  unfold gOff at h
  split at h
  · cases h
    exact ⟨rfl, rfl, off48 H _ _ _ _ _ _ _ _ _ _ _⟩
  · cases h)
/-- Do two meet? -/
def meetB (ch at_ en ch' at' en' : Int) : Bool := decide (ch = ch') && decide (at_ < en') && decide (at' < en)
theorem meet18 (H : DH) (i fr ch at_ en le : Int) (b : Bool) (p : Option (Nat × Nat × Nat)) (n c : Nat) (ex : Bool) (i' fr' ch' at' en' le' : Int) (b' : Bool) (p' : Option (Nat × Nat × Nat)) (n' c' : Nat) (ex' : Bool) : CallWp Try.prog X1 18 [.agg [.int .u64 i, .int .i64 fr, .int .i64 ch, .int .i64 at_, .int .i64 en, .sl p n c ex, .bool b, .int .i64 le], .agg [.int .u64 i', .int .i64 fr', .int .i64 ch', .int .i64 at', .int .i64 en', .sl p' n' c' ex', .bool b', .int .i64 le']] H (fun r H' => r = .bool (meetB ch at_ en ch' at' en') ∧ Above H H') := by
  refine enter rfl Try.func18 rfl Try.ntmps18 rfl ?_
  dsimp only [List.cons_append, List.nil_append, List.length_cons, List.length_nil, List.replicate_succ, List.replicate_zero, Nat.reduceAdd, Nat.reduceSub]
  repeat' (first
    | refine dwp_seq ?_
    | refine dwp_region ?_
    | refine ops_nil ?_
    | (refine ops_plain rfl ?_; (first | refine op_pick_t rfl rfl (by first | with_reducible assumption | with_reducible rfl | decide) rfl ?_ | refine op_pick_f rfl rfl (by first | with_reducible assumption | with_reducible rfl | decide) rfl ?_ | refine op_at (opD_load rfl rfl (by repeat (first | with_reducible assumption | (with_reducible refine obj_here ?_; rfl) | with_reducible exact obj_set | (with_reducible refine obj_skip ?_ ?_; · ((try simp only [DH.new_next, DH.set_next]); omega)) | (with_reducible refine obj_past ?_ ?_; · ((try simp only [DH.new_next, DH.set_next]); omega)) | exact obj_here rfl | exact obj_set)) rfl rfl) ?_ | refine op_at (opD_store rfl rfl rfl rfl rfl (by repeat (first | with_reducible assumption | (with_reducible refine obj_here ?_; rfl) | with_reducible exact obj_set | (with_reducible refine obj_skip ?_ ?_; · ((try simp only [DH.new_next, DH.set_next]); omega)) | (with_reducible refine obj_past ?_ ?_; · ((try simp only [DH.new_next, DH.set_next]); omega)) | exact obj_here rfl | exact obj_set)) rfl) ?_ | refine op_at (opD_eqb rfl rfl rfl rfl) ?_ | refine op_at (opD_neqb rfl rfl rfl rfl) ?_ | refine op_at rfl ?_); (all_goals try dsimp only [putD, DV.cells, DH.new_next, DH.set_next, List.length_cons, List.length_nil, Nat.reduceAdd, List.set_cons_zero, List.set_cons_succ, getD_zero, getD_succ, fieldAt_zero, fieldAt_succ, thenD, blockD, retR]))
    | (refine ops_on rfl rfl (by first | with_reducible assumption | with_reducible rfl | decide) ?_; (first | refine op_pick_t rfl rfl (by first | with_reducible assumption | with_reducible rfl | decide) rfl ?_ | refine op_pick_f rfl rfl (by first | with_reducible assumption | with_reducible rfl | decide) rfl ?_ | refine op_at (opD_load rfl rfl (by repeat (first | with_reducible assumption | (with_reducible refine obj_here ?_; rfl) | with_reducible exact obj_set | (with_reducible refine obj_skip ?_ ?_; · ((try simp only [DH.new_next, DH.set_next]); omega)) | (with_reducible refine obj_past ?_ ?_; · ((try simp only [DH.new_next, DH.set_next]); omega)) | exact obj_here rfl | exact obj_set)) rfl rfl) ?_ | refine op_at (opD_store rfl rfl rfl rfl rfl (by repeat (first | with_reducible assumption | (with_reducible refine obj_here ?_; rfl) | with_reducible exact obj_set | (with_reducible refine obj_skip ?_ ?_; · ((try simp only [DH.new_next, DH.set_next]); omega)) | (with_reducible refine obj_past ?_ ?_; · ((try simp only [DH.new_next, DH.set_next]); omega)) | exact obj_here rfl | exact obj_set)) rfl) ?_ | refine op_at (opD_eqb rfl rfl rfl rfl) ?_ | refine op_at (opD_neqb rfl rfl rfl rfl) ?_ | refine op_at rfl ?_); (all_goals try dsimp only [putD, DV.cells, DH.new_next, DH.set_next, List.length_cons, List.length_nil, Nat.reduceAdd, List.set_cons_zero, List.set_cons_succ, getD_zero, getD_succ, fieldAt_zero, fieldAt_succ, thenD, blockD, retR]))
    | (refine ops_off1 rfl rfl (by first | with_reducible assumption | with_reducible rfl | decide) ?_; (all_goals try dsimp only [putD, DV.cells, DH.new_next, DH.set_next, List.length_cons, List.length_nil, Nat.reduceAdd, List.set_cons_zero, List.set_cons_succ, getD_zero, getD_succ, fieldAt_zero, fieldAt_succ, thenD, blockD, retR]))
    | (refine ops_off0 rfl rfl (by first | with_reducible assumption | with_reducible rfl | decide) ?_; (all_goals try dsimp only [putD, DV.cells, DH.new_next, DH.set_next, List.length_cons, List.length_nil, Nat.reduceAdd, List.set_cons_zero, List.set_cons_succ, getD_zero, getD_succ, fieldAt_zero, fieldAt_succ, thenD, blockD, retR]))
    | (refine ops_offn rfl rfl ?_; (all_goals try dsimp only [putD, DV.cells, DH.new_next, DH.set_next, List.length_cons, List.length_nil, Nat.reduceAdd, List.set_cons_zero, List.set_cons_succ, getD_zero, getD_succ, fieldAt_zero, fieldAt_succ, thenD, blockD, retR]))
    | (refine ops_split1 rfl rfl ?_ ?_ <;> intro hb)
    | (refine ops_split0 rfl rfl ?_ ?_ <;> intro hb)
    | ((first | refine op_pick_t rfl rfl (by first | with_reducible assumption | with_reducible rfl | decide) rfl ?_ | refine op_pick_f rfl rfl (by first | with_reducible assumption | with_reducible rfl | decide) rfl ?_ | refine op_at (opD_load rfl rfl (by repeat (first | with_reducible assumption | (with_reducible refine obj_here ?_; rfl) | with_reducible exact obj_set | (with_reducible refine obj_skip ?_ ?_; · ((try simp only [DH.new_next, DH.set_next]); omega)) | (with_reducible refine obj_past ?_ ?_; · ((try simp only [DH.new_next, DH.set_next]); omega)) | exact obj_here rfl | exact obj_set)) rfl rfl) ?_ | refine op_at (opD_store rfl rfl rfl rfl rfl (by repeat (first | with_reducible assumption | (with_reducible refine obj_here ?_; rfl) | with_reducible exact obj_set | (with_reducible refine obj_skip ?_ ?_; · ((try simp only [DH.new_next, DH.set_next]); omega)) | (with_reducible refine obj_past ?_ ?_; · ((try simp only [DH.new_next, DH.set_next]); omega)) | exact obj_here rfl | exact obj_set)) rfl) ?_ | refine op_at (opD_eqb rfl rfl rfl rfl) ?_ | refine op_at (opD_neqb rfl rfl rfl rfl) ?_ | refine op_at rfl ?_); (all_goals try dsimp only [putD, DV.cells, DH.new_next, DH.set_next, List.length_cons, List.length_nil, Nat.reduceAdd, List.set_cons_zero, List.set_cons_succ, getD_zero, getD_succ, fieldAt_zero, fieldAt_succ, thenD, blockD, retR]))
    | refine dwp_drawc _ rfl ?_
    | refine drawc_nil ?_
    | (refine drawc_pick_t (by first | exact wanted_plain rfl | exact wanted_on rfl rfl (by first | with_reducible assumption | with_reducible rfl | decide)) rfl rfl (by first | with_reducible assumption | with_reducible rfl | decide) rfl ?_; (all_goals try dsimp only [putD, DV.cells, DH.new_next, DH.set_next, List.length_cons, List.length_nil, Nat.reduceAdd, List.set_cons_zero, List.set_cons_succ, getD_zero, getD_succ, fieldAt_zero, fieldAt_succ, thenD, blockD, retR]))
    | (refine drawc_pick_f (by first | exact wanted_plain rfl | exact wanted_on rfl rfl (by first | with_reducible assumption | with_reducible rfl | decide)) rfl rfl (by first | with_reducible assumption | with_reducible rfl | decide) rfl ?_; (all_goals try dsimp only [putD, DV.cells, DH.new_next, DH.set_next, List.length_cons, List.length_nil, Nat.reduceAdd, List.set_cons_zero, List.set_cons_succ, getD_zero, getD_succ, fieldAt_zero, fieldAt_succ, thenD, blockD, retR]))
    | (refine drawc_pure (by first | exact wanted_plain rfl | exact wanted_on rfl rfl (by first | with_reducible assumption | with_reducible rfl | decide)) rfl rfl rfl ?_; (all_goals try dsimp only [putD, DV.cells, DH.new_next, DH.set_next, List.length_cons, List.length_nil, Nat.reduceAdd, List.set_cons_zero, List.set_cons_succ, getD_zero, getD_succ, fieldAt_zero, fieldAt_succ, thenD, blockD, retR]))
    | (refine drawc_read (by first | exact wanted_plain rfl | exact wanted_on rfl rfl (by first | with_reducible assumption | with_reducible rfl | decide)) rfl rfl (by kernel_rfl) (opD_load rfl rfl (by repeat (first | with_reducible assumption | (with_reducible refine obj_here ?_; rfl) | with_reducible exact obj_set | (with_reducible refine obj_skip ?_ ?_; · ((try simp only [DH.new_next, DH.set_next]); omega)) | (with_reducible refine obj_past ?_ ?_; · ((try simp only [DH.new_next, DH.set_next]); omega)) | exact obj_here rfl | exact obj_set)) rfl rfl) ?_; (all_goals try dsimp only [putD, DV.cells, DH.new_next, DH.set_next, List.length_cons, List.length_nil, Nat.reduceAdd, List.set_cons_zero, List.set_cons_succ, getD_zero, getD_succ, fieldAt_zero, fieldAt_succ, thenD, blockD, retR]))
    | (refine drawc_read (by first | exact wanted_plain rfl | exact wanted_on rfl rfl (by first | with_reducible assumption | with_reducible rfl | decide)) rfl rfl (by kernel_rfl) rfl ?_; (all_goals try dsimp only [putD, DV.cells, DH.new_next, DH.set_next, List.length_cons, List.length_nil, Nat.reduceAdd, List.set_cons_zero, List.set_cons_succ, getD_zero, getD_succ, fieldAt_zero, fieldAt_succ, thenD, blockD, retR]))
    | (refine drawc_sync (by first | exact wanted_plain rfl | exact wanted_on rfl rfl (by first | with_reducible assumption | with_reducible rfl | decide)) rfl (by kernel_rfl) ?_; (first | refine op_pick_t rfl rfl (by first | with_reducible assumption | with_reducible rfl | decide) rfl ?_ | refine op_pick_f rfl rfl (by first | with_reducible assumption | with_reducible rfl | decide) rfl ?_ | refine op_at (opD_load rfl rfl (by repeat (first | with_reducible assumption | (with_reducible refine obj_here ?_; rfl) | with_reducible exact obj_set | (with_reducible refine obj_skip ?_ ?_; · ((try simp only [DH.new_next, DH.set_next]); omega)) | (with_reducible refine obj_past ?_ ?_; · ((try simp only [DH.new_next, DH.set_next]); omega)) | exact obj_here rfl | exact obj_set)) rfl rfl) ?_ | refine op_at (opD_store rfl rfl rfl rfl rfl (by repeat (first | with_reducible assumption | (with_reducible refine obj_here ?_; rfl) | with_reducible exact obj_set | (with_reducible refine obj_skip ?_ ?_; · ((try simp only [DH.new_next, DH.set_next]); omega)) | (with_reducible refine obj_past ?_ ?_; · ((try simp only [DH.new_next, DH.set_next]); omega)) | exact obj_here rfl | exact obj_set)) rfl) ?_ | refine op_at (opD_eqb rfl rfl rfl rfl) ?_ | refine op_at (opD_neqb rfl rfl rfl rfl) ?_ | refine op_at rfl ?_); (all_goals try dsimp only [putD, DV.cells, DH.new_next, DH.set_next, List.length_cons, List.length_nil, Nat.reduceAdd, List.set_cons_zero, List.set_cons_succ, getD_zero, getD_succ, fieldAt_zero, fieldAt_succ, thenD, blockD, retR]))
    | (refine drawc_off (by first | exact wanted_off1 rfl rfl (by first | with_reducible assumption | with_reducible rfl | decide) | exact wanted_off0 rfl rfl (by first | with_reducible assumption | with_reducible rfl | decide) | exact wanted_none rfl rfl) ?_; (all_goals try dsimp only [putD, DV.cells, DH.new_next, DH.set_next, List.length_cons, List.length_nil, Nat.reduceAdd, List.set_cons_zero, List.set_cons_succ, getD_zero, getD_succ, fieldAt_zero, fieldAt_succ, thenD, blockD, retR]))
    | refine dwp_cond_t rfl (by first | with_reducible assumption | with_reducible rfl | decide) ?_
    | refine dwp_cond_f rfl (by first | with_reducible assumption | with_reducible rfl | decide) ?_
    | (refine dwp_cond rfl ?_ ?_ <;> intro hb)
    | refine dwp_block ?_
    | refine dwp_skip ?_
    | refine dwp_ret ?_
    | refine dwp_exit ?_
    | dsimp only [thenD, blockD, retR]
    | (refine ⟨_, rfl, ?_⟩; try dsimp only)
    | fail)
  all_goals refine ⟨?_, ((Above.refl H).new _).new _⟩
  all_goals dsimp only [getD_zero, getD_succ]
  all_goals refine congrArg DV.bool ?_
  all_goals rw [Bool.eq_iff_iff]
  all_goals simp only [eq_self, true_iff, meetB, Bool.and_eq_true, Bool.not_eq_true', Bool.not_eq_false', Bool.and_eq_false_iff, decide_eq_true_eq, decide_eq_false_iff_not, beq_iff_eq, beq_eq_false_iff_ne, Bool.false_eq_true, false_iff] at *
  all_goals omega
def gMeet : G := fun args H => match args with
  | [.agg [.int .u64 _, .int .i64 _, .int .i64 ch, .int .i64 at_, .int .i64 en, .sl _ _ _ _, .bool _, .int .i64 _], .agg [.int .u64 _, .int .i64 _, .int .i64 ch', .int .i64 at', .int .i64 en', .sl _ _ _ _, .bool _, .int .i64 _]] => some (.bool (meetB ch at_ en ch' at' en'), H)
  | _ => none
theorem meet_ok : ExtSound Try.prog gMeet 18 := ext_read ok1 Try.func18 rfl rfl (by
  intro args H r H' hw h
  unfold gMeet at h
  split at h
  · cases h
    exact ⟨rfl, rfl, meet18 H _ _ _ _ _ _ _ _ _ _ _ _ _ _ _ _ _ _ _ _ _ _⟩
  · cases h)
def E2 : List (FuncId × G) := [(15, gLive), (72, gMay), (48, gOff), (18, gMeet)]
theorem okE2 : ∀ f g, (f, g) ∈ E2 → ExtSound Try.prog g f := by
  intro f g h
  simp only [E2, List.mem_cons, List.not_mem_nil, or_false, Prod.mk.injEq] at h
  rcases h with ⟨rfl, rfl⟩ | ⟨rfl, rfl⟩ | ⟨rfl, rfl⟩ | ⟨rfl, rfl⟩
  · exact live_ok
  · exact may_ok
  · exact off_ok
  · exact meet_ok
def X2 : Ext := Xof L E2
theorem ok2 : ProgOk Try.prog X2 := progOk_of mixed okL okE2
end Go.Det.M11

/- Lists of things on a channel; where the first of a kind stands. -/
namespace Go.Det.M11
open Go Go.Det Go.Proofs
set_option maxRecDepth 4000
set_option maxHeartbeats 4000000
set_option linter.unusedVariables false
set_option linter.unusedSimpArgs false
/-- A thing, its bytes told by where they lie. -/
structure AirV where
  id : Int
  fr : Int
  ch : Int
  at_ : Int
  en : Int
  p : Option (Nat × Nat × Nat)
  n : Nat
  c : Nat
  ex : Bool
  bad : Bool
  le : Int
def AirV.cells (a : AirV) : List DV := [.int .u64 a.id, .int .i64 a.fr, .int .i64 a.ch, .int .i64 a.at_, .int .i64 a.en, .sl a.p a.n a.c a.ex, .bool a.bad, .int .i64 a.le]
def AirV.dv (a : AirV) : DV := .agg a.cells
theorem air_part (a : AirV) : partD Try.prog 28 a.cells 0 = some a.dv := rfl
/-- The rows of things that lie from a row on. -/
def Lies (H : DH) (loc i : Nat) (l : List AirV) : Prop := ∃ ro rs, H.obj loc = some (.rows ro 8 rs) ∧ ∀ (k : Nat) (a : AirV), l[k]? = some a → rs[i + k]? = some a.cells
def kOf (st : DSt) (s : Nat) : Nat := ((intOf (st.env.getD s undefD)).getD 0).toNat
theorem wrapNat {k : Nat} (h : k < 9223372036854775807) : IntKind.i64.wrap ((k : Int) + 1) = ((k + 1 : Nat) : Int) := by
  unfold IntKind.wrap
  simp [IntKind.signed, IntKind.bits]
  omega
theorem find_at {pf : AirV → Bool} {l : List AirV} {k : Nat} {a : AirV} (ha : l[k]? = some a) (hb : pf a = true) (hbefore : ∀ (j : Nat) (b : AirV), j < k → l[j]? = some b → pf b = false) : l.findIdx? pf = some k := by
  obtain ⟨hk, rfl⟩ := List.getElem?_eq_some_iff.mp ha
  rw [List.findIdx?_eq_some_iff_getElem]
  exact ⟨hk, hb, fun j hj => by rw [hbefore j _ hj (List.getElem?_eq_getElem (by omega))]; simp⟩
theorem find_none {pf : AirV → Bool} {l : List AirV} (h : ∀ (j : Nat) (b : AirV), l[j]? = some b → pf b = false) : l.findIdx? pf = none := by
  rw [List.findIdx?_eq_none_iff]
  intro a ha
  obtain ⟨j, hj, rfl⟩ := List.getElem_of_mem ha
  exact h j _ (List.getElem?_eq_getElem hj)
theorem index64 {X : Ext} (hx : X 64 = none) {F : FuncId} {cap : List DV} {pf : AirV → Bool} (hF : ∀ (a : AirV) (H : DH) (K : DV → DH → Prop), K (.bool (pf a)) H → CallWp Try.prog X F (a.dv :: cap) H K)
    (H : DH) (loc i c : Nat) (ex : Bool) (l : List AirV) (hl : Lies H loc i l) (hlen : l.length ≤ maxLen) :
    CallWp Try.prog X 64 [.sl (some (loc, i, 8)) l.length c ex, .func (.func F) [] cap] H (fun r H' => r = .int .i64 (match l.findIdx? pf with | some k => (k : Int) | none => -1) ∧ H' = H) := by
  obtain ⟨ro, rs, ho, hrow⟩ := hl
  refine enter hx Try.func64 rfl Try.ntmps64 rfl ?_
  dsimp only [List.cons_append, List.nil_append, List.length_cons, List.length_nil, List.replicate_succ, List.replicate_zero, Nat.reduceAdd, Nat.reduceSub]
  repeat' (first
    | refine dwp_seq ?_
    | refine dwp_region ?_
    | refine ops_nil ?_
    | (refine ops_plain rfl ?_; (first | refine op_pick_t rfl rfl (by first | with_reducible assumption | with_reducible rfl | decide) rfl ?_ | refine op_pick_f rfl rfl (by first | with_reducible assumption | with_reducible rfl | decide) rfl ?_ | refine op_at (opD_load rfl rfl (by repeat (first | with_reducible assumption | (with_reducible refine obj_here ?_; rfl) | with_reducible exact obj_set | (with_reducible refine obj_skip ?_ ?_; · ((try simp only [DH.new_next, DH.set_next]); omega)) | (with_reducible refine obj_past ?_ ?_; · ((try simp only [DH.new_next, DH.set_next]); omega)) | exact obj_here rfl | exact obj_set)) rfl rfl) ?_ | refine op_at (opD_store rfl rfl rfl rfl rfl (by repeat (first | with_reducible assumption | (with_reducible refine obj_here ?_; rfl) | with_reducible exact obj_set | (with_reducible refine obj_skip ?_ ?_; · ((try simp only [DH.new_next, DH.set_next]); omega)) | (with_reducible refine obj_past ?_ ?_; · ((try simp only [DH.new_next, DH.set_next]); omega)) | exact obj_here rfl | exact obj_set)) rfl) ?_ | refine op_at (opD_eqb rfl rfl rfl rfl) ?_ | refine op_at (opD_neqb rfl rfl rfl rfl) ?_ | refine op_at rfl ?_); (all_goals try dsimp only [putD, DV.cells, DH.new_next, DH.set_next, List.length_cons, List.length_nil, Nat.reduceAdd, List.set_cons_zero, List.set_cons_succ, getD_zero, getD_succ, fieldAt_zero, fieldAt_succ, thenD, blockD, retR]))
    | (refine ops_on rfl rfl (by first | with_reducible assumption | with_reducible rfl | decide) ?_; (first | refine op_pick_t rfl rfl (by first | with_reducible assumption | with_reducible rfl | decide) rfl ?_ | refine op_pick_f rfl rfl (by first | with_reducible assumption | with_reducible rfl | decide) rfl ?_ | refine op_at (opD_load rfl rfl (by repeat (first | with_reducible assumption | (with_reducible refine obj_here ?_; rfl) | with_reducible exact obj_set | (with_reducible refine obj_skip ?_ ?_; · ((try simp only [DH.new_next, DH.set_next]); omega)) | (with_reducible refine obj_past ?_ ?_; · ((try simp only [DH.new_next, DH.set_next]); omega)) | exact obj_here rfl | exact obj_set)) rfl rfl) ?_ | refine op_at (opD_store rfl rfl rfl rfl rfl (by repeat (first | with_reducible assumption | (with_reducible refine obj_here ?_; rfl) | with_reducible exact obj_set | (with_reducible refine obj_skip ?_ ?_; · ((try simp only [DH.new_next, DH.set_next]); omega)) | (with_reducible refine obj_past ?_ ?_; · ((try simp only [DH.new_next, DH.set_next]); omega)) | exact obj_here rfl | exact obj_set)) rfl) ?_ | refine op_at (opD_eqb rfl rfl rfl rfl) ?_ | refine op_at (opD_neqb rfl rfl rfl rfl) ?_ | refine op_at rfl ?_); (all_goals try dsimp only [putD, DV.cells, DH.new_next, DH.set_next, List.length_cons, List.length_nil, Nat.reduceAdd, List.set_cons_zero, List.set_cons_succ, getD_zero, getD_succ, fieldAt_zero, fieldAt_succ, thenD, blockD, retR]))
    | (refine ops_off1 rfl rfl (by first | with_reducible assumption | with_reducible rfl | decide) ?_; (all_goals try dsimp only [putD, DV.cells, DH.new_next, DH.set_next, List.length_cons, List.length_nil, Nat.reduceAdd, List.set_cons_zero, List.set_cons_succ, getD_zero, getD_succ, fieldAt_zero, fieldAt_succ, thenD, blockD, retR]))
    | (refine ops_off0 rfl rfl (by first | with_reducible assumption | with_reducible rfl | decide) ?_; (all_goals try dsimp only [putD, DV.cells, DH.new_next, DH.set_next, List.length_cons, List.length_nil, Nat.reduceAdd, List.set_cons_zero, List.set_cons_succ, getD_zero, getD_succ, fieldAt_zero, fieldAt_succ, thenD, blockD, retR]))
    | (refine ops_offn rfl rfl ?_; (all_goals try dsimp only [putD, DV.cells, DH.new_next, DH.set_next, List.length_cons, List.length_nil, Nat.reduceAdd, List.set_cons_zero, List.set_cons_succ, getD_zero, getD_succ, fieldAt_zero, fieldAt_succ, thenD, blockD, retR]))
    | (refine ops_split1 rfl rfl ?_ ?_ <;> intro hb)
    | (refine ops_split0 rfl rfl ?_ ?_ <;> intro hb)
    | ((first | refine op_pick_t rfl rfl (by first | with_reducible assumption | with_reducible rfl | decide) rfl ?_ | refine op_pick_f rfl rfl (by first | with_reducible assumption | with_reducible rfl | decide) rfl ?_ | refine op_at (opD_load rfl rfl (by repeat (first | with_reducible assumption | (with_reducible refine obj_here ?_; rfl) | with_reducible exact obj_set | (with_reducible refine obj_skip ?_ ?_; · ((try simp only [DH.new_next, DH.set_next]); omega)) | (with_reducible refine obj_past ?_ ?_; · ((try simp only [DH.new_next, DH.set_next]); omega)) | exact obj_here rfl | exact obj_set)) rfl rfl) ?_ | refine op_at (opD_store rfl rfl rfl rfl rfl (by repeat (first | with_reducible assumption | (with_reducible refine obj_here ?_; rfl) | with_reducible exact obj_set | (with_reducible refine obj_skip ?_ ?_; · ((try simp only [DH.new_next, DH.set_next]); omega)) | (with_reducible refine obj_past ?_ ?_; · ((try simp only [DH.new_next, DH.set_next]); omega)) | exact obj_here rfl | exact obj_set)) rfl) ?_ | refine op_at (opD_eqb rfl rfl rfl rfl) ?_ | refine op_at (opD_neqb rfl rfl rfl rfl) ?_ | refine op_at rfl ?_); (all_goals try dsimp only [putD, DV.cells, DH.new_next, DH.set_next, List.length_cons, List.length_nil, Nat.reduceAdd, List.set_cons_zero, List.set_cons_succ, getD_zero, getD_succ, fieldAt_zero, fieldAt_succ, thenD, blockD, retR]))
    | refine dwp_cond_t rfl (by first | with_reducible assumption | with_reducible rfl | decide) ?_
    | refine dwp_cond_f rfl (by first | with_reducible assumption | with_reducible rfl | decide) ?_
    | (refine dwp_cond rfl ?_ ?_ <;> intro hb)
    | refine dwp_block ?_
    | refine dwp_skip ?_
    | refine dwp_ret ?_
    | refine dwp_exit ?_
    | dsimp only [thenD, blockD, retR]
    | (refine ⟨_, rfl, ?_⟩; try dsimp only)
    | fail)
  refine dwp_loop (fun st => ∃ (k : Nat) (x5 x9 x10 x11 x12 x13 x14 x15 x16 x17 x18 : DV), k ≤ l.length ∧ (∀ j a, j < k → l[j]? = some a → pf a = false) ∧ st = ⟨[.sl (some (loc, i, 8)) l.length c ex, .func (.func F) [] cap, undefD, undefD, .int .i64 0, x5, .sl (some (loc, i, 8)) l.length c ex, .int .i64 l.length, .int .i64 k, x9, x10, x11, x12, x13, x14, x15, x16, x17, x18], H⟩) (fun st => l.length - kOf st 8) ⟨0, undefD, undefD, undefD, undefD, undefD, undefD, undefD, undefD, undefD, undefD, undefD, Nat.zero_le _, fun j a h => absurd h (Nat.not_lt_zero _), rfl⟩ ?_
  rintro st ⟨k, x5, x9, x10, x11, x12, x13, x14, x15, x16, x17, x18, hk, hbefore, rfl⟩
  by_cases hlt : k < l.length
  · obtain ⟨a, ha⟩ : ∃ a, l[k]? = some a := ⟨l[k], List.getElem?_eq_getElem hlt⟩
    have hrk : rs[i + ((k : Int)).toNat]? = some a.cells := by rw [Int.toNat_natCast]; exact hrow k a ha
    have hc : decide ((k : Int) < (l.length : Int)) = true := by simp [hlt]
    have hin : 0 ≤ (k : Int) ∧ (k : Int) < (l.length : Int) := by omega
    repeat' (first
      | refine dwp_seq ?_
      | refine dwp_region ?_
      | refine ops_nil ?_
      | (refine ops_plain rfl ?_; (first | (refine op_call rfl rfl rfl ?_; refine hF _ _ _ ?_) | refine op_pick_t rfl rfl (by first | with_reducible assumption | with_reducible rfl | decide) rfl ?_ | refine op_pick_f rfl rfl (by first | with_reducible assumption | with_reducible rfl | decide) rfl ?_ | refine op_at (opD_index rfl rfl rfl rfl rfl hin) ?_ | refine op_at (opD_load rfl rfl ho hrk (air_part a)) ?_ | refine op_at (opD_load rfl rfl (by repeat (first | with_reducible assumption | (with_reducible refine obj_here ?_; rfl) | with_reducible exact obj_set | (with_reducible refine obj_skip ?_ ?_; · ((try simp only [DH.new_next, DH.set_next]); omega)) | (with_reducible refine obj_past ?_ ?_; · ((try simp only [DH.new_next, DH.set_next]); omega)) | exact obj_here rfl | exact obj_set)) rfl rfl) ?_ | refine op_at (opD_store rfl rfl rfl rfl rfl (by repeat (first | with_reducible assumption | (with_reducible refine obj_here ?_; rfl) | with_reducible exact obj_set | (with_reducible refine obj_skip ?_ ?_; · ((try simp only [DH.new_next, DH.set_next]); omega)) | (with_reducible refine obj_past ?_ ?_; · ((try simp only [DH.new_next, DH.set_next]); omega)) | exact obj_here rfl | exact obj_set)) rfl) ?_ | refine op_at (opD_eqb rfl rfl rfl rfl) ?_ | refine op_at (opD_neqb rfl rfl rfl rfl) ?_ | refine op_at rfl ?_); (all_goals try dsimp only [putD, DV.cells, DH.new_next, DH.set_next, List.length_cons, List.length_nil, Nat.reduceAdd, List.set_cons_zero, List.set_cons_succ, getD_zero, getD_succ, fieldAt_zero, fieldAt_succ, thenD, blockD, retR]))
      | (refine ops_on rfl rfl (by first | with_reducible assumption | with_reducible rfl | decide) ?_; (first | (refine op_call rfl rfl rfl ?_; refine hF _ _ _ ?_) | refine op_pick_t rfl rfl (by first | with_reducible assumption | with_reducible rfl | decide) rfl ?_ | refine op_pick_f rfl rfl (by first | with_reducible assumption | with_reducible rfl | decide) rfl ?_ | refine op_at (opD_index rfl rfl rfl rfl rfl hin) ?_ | refine op_at (opD_load rfl rfl ho hrk (air_part a)) ?_ | refine op_at (opD_load rfl rfl (by repeat (first | with_reducible assumption | (with_reducible refine obj_here ?_; rfl) | with_reducible exact obj_set | (with_reducible refine obj_skip ?_ ?_; · ((try simp only [DH.new_next, DH.set_next]); omega)) | (with_reducible refine obj_past ?_ ?_; · ((try simp only [DH.new_next, DH.set_next]); omega)) | exact obj_here rfl | exact obj_set)) rfl rfl) ?_ | refine op_at (opD_store rfl rfl rfl rfl rfl (by repeat (first | with_reducible assumption | (with_reducible refine obj_here ?_; rfl) | with_reducible exact obj_set | (with_reducible refine obj_skip ?_ ?_; · ((try simp only [DH.new_next, DH.set_next]); omega)) | (with_reducible refine obj_past ?_ ?_; · ((try simp only [DH.new_next, DH.set_next]); omega)) | exact obj_here rfl | exact obj_set)) rfl) ?_ | refine op_at (opD_eqb rfl rfl rfl rfl) ?_ | refine op_at (opD_neqb rfl rfl rfl rfl) ?_ | refine op_at rfl ?_); (all_goals try dsimp only [putD, DV.cells, DH.new_next, DH.set_next, List.length_cons, List.length_nil, Nat.reduceAdd, List.set_cons_zero, List.set_cons_succ, getD_zero, getD_succ, fieldAt_zero, fieldAt_succ, thenD, blockD, retR]))
      | (refine ops_off1 rfl rfl (by first | with_reducible assumption | with_reducible rfl | decide) ?_; (all_goals try dsimp only [putD, DV.cells, DH.new_next, DH.set_next, List.length_cons, List.length_nil, Nat.reduceAdd, List.set_cons_zero, List.set_cons_succ, getD_zero, getD_succ, fieldAt_zero, fieldAt_succ, thenD, blockD, retR]))
      | (refine ops_off0 rfl rfl (by first | with_reducible assumption | with_reducible rfl | decide) ?_; (all_goals try dsimp only [putD, DV.cells, DH.new_next, DH.set_next, List.length_cons, List.length_nil, Nat.reduceAdd, List.set_cons_zero, List.set_cons_succ, getD_zero, getD_succ, fieldAt_zero, fieldAt_succ, thenD, blockD, retR]))
      | (refine ops_offn rfl rfl ?_; (all_goals try dsimp only [putD, DV.cells, DH.new_next, DH.set_next, List.length_cons, List.length_nil, Nat.reduceAdd, List.set_cons_zero, List.set_cons_succ, getD_zero, getD_succ, fieldAt_zero, fieldAt_succ, thenD, blockD, retR]))
      | (refine ops_split1 rfl rfl ?_ ?_ <;> intro hb)
      | (refine ops_split0 rfl rfl ?_ ?_ <;> intro hb)
      | ((first | (refine op_call rfl rfl rfl ?_; refine hF _ _ _ ?_) | refine op_pick_t rfl rfl (by first | with_reducible assumption | with_reducible rfl | decide) rfl ?_ | refine op_pick_f rfl rfl (by first | with_reducible assumption | with_reducible rfl | decide) rfl ?_ | refine op_at (opD_index rfl rfl rfl rfl rfl hin) ?_ | refine op_at (opD_load rfl rfl ho hrk (air_part a)) ?_ | refine op_at (opD_load rfl rfl (by repeat (first | with_reducible assumption | (with_reducible refine obj_here ?_; rfl) | with_reducible exact obj_set | (with_reducible refine obj_skip ?_ ?_; · ((try simp only [DH.new_next, DH.set_next]); omega)) | (with_reducible refine obj_past ?_ ?_; · ((try simp only [DH.new_next, DH.set_next]); omega)) | exact obj_here rfl | exact obj_set)) rfl rfl) ?_ | refine op_at (opD_store rfl rfl rfl rfl rfl (by repeat (first | with_reducible assumption | (with_reducible refine obj_here ?_; rfl) | with_reducible exact obj_set | (with_reducible refine obj_skip ?_ ?_; · ((try simp only [DH.new_next, DH.set_next]); omega)) | (with_reducible refine obj_past ?_ ?_; · ((try simp only [DH.new_next, DH.set_next]); omega)) | exact obj_here rfl | exact obj_set)) rfl) ?_ | refine op_at (opD_eqb rfl rfl rfl rfl) ?_ | refine op_at (opD_neqb rfl rfl rfl rfl) ?_ | refine op_at rfl ?_); (all_goals try dsimp only [putD, DV.cells, DH.new_next, DH.set_next, List.length_cons, List.length_nil, Nat.reduceAdd, List.set_cons_zero, List.set_cons_succ, getD_zero, getD_succ, fieldAt_zero, fieldAt_succ, thenD, blockD, retR]))
      | refine dwp_cond_t rfl (by first | with_reducible assumption | with_reducible rfl | decide) ?_
      | refine dwp_cond_f rfl (by first | with_reducible assumption | with_reducible rfl | decide) ?_
      | (refine dwp_cond rfl ?_ ?_ <;> intro hb)
      | refine dwp_block ?_
      | refine dwp_skip ?_
      | refine dwp_ret ?_
      | refine dwp_exit ?_
      | dsimp only [thenD, blockD, retR]
      | (refine ⟨_, rfl, ?_⟩; try dsimp only)
      | fail)
    · refine ⟨?_, rfl⟩
      rw [find_at ha hb hbefore]
      rfl
    · have hw := wrapNat (k := k) (by unfold maxLen at hlen; omega)
      rw [hw]
      refine ⟨⟨k + 1, _, _, _, _, _, _, _, _, _, _, _, by omega, fun j b hj hjb => ?_, rfl⟩, ?_⟩
      · rcases Nat.lt_succ_iff_lt_or_eq.mp hj with h | rfl
        · exact hbefore j b h hjb
        · rw [ha] at hjb; cases hjb; exact hb
      · show l.length - ((k + 1 : Nat) : Int).toNat < l.length - (k : Int).toNat
        omega
  · have hc : decide ((k : Int) < (l.length : Int)) = false := by simp; omega
    repeat' (first
      | refine dwp_seq ?_
      | refine dwp_region ?_
      | refine ops_nil ?_
      | (refine ops_plain rfl ?_; (first | refine op_pick_t rfl rfl (by first | with_reducible assumption | with_reducible rfl | decide) rfl ?_ | refine op_pick_f rfl rfl (by first | with_reducible assumption | with_reducible rfl | decide) rfl ?_ | refine op_at (opD_load rfl rfl (by repeat (first | with_reducible assumption | (with_reducible refine obj_here ?_; rfl) | with_reducible exact obj_set | (with_reducible refine obj_skip ?_ ?_; · ((try simp only [DH.new_next, DH.set_next]); omega)) | (with_reducible refine obj_past ?_ ?_; · ((try simp only [DH.new_next, DH.set_next]); omega)) | exact obj_here rfl | exact obj_set)) rfl rfl) ?_ | refine op_at (opD_store rfl rfl rfl rfl rfl (by repeat (first | with_reducible assumption | (with_reducible refine obj_here ?_; rfl) | with_reducible exact obj_set | (with_reducible refine obj_skip ?_ ?_; · ((try simp only [DH.new_next, DH.set_next]); omega)) | (with_reducible refine obj_past ?_ ?_; · ((try simp only [DH.new_next, DH.set_next]); omega)) | exact obj_here rfl | exact obj_set)) rfl) ?_ | refine op_at (opD_eqb rfl rfl rfl rfl) ?_ | refine op_at (opD_neqb rfl rfl rfl rfl) ?_ | refine op_at rfl ?_); (all_goals try dsimp only [putD, DV.cells, DH.new_next, DH.set_next, List.length_cons, List.length_nil, Nat.reduceAdd, List.set_cons_zero, List.set_cons_succ, getD_zero, getD_succ, fieldAt_zero, fieldAt_succ, thenD, blockD, retR]))
      | (refine ops_on rfl rfl (by first | with_reducible assumption | with_reducible rfl | decide) ?_; (first | refine op_pick_t rfl rfl (by first | with_reducible assumption | with_reducible rfl | decide) rfl ?_ | refine op_pick_f rfl rfl (by first | with_reducible assumption | with_reducible rfl | decide) rfl ?_ | refine op_at (opD_load rfl rfl (by repeat (first | with_reducible assumption | (with_reducible refine obj_here ?_; rfl) | with_reducible exact obj_set | (with_reducible refine obj_skip ?_ ?_; · ((try simp only [DH.new_next, DH.set_next]); omega)) | (with_reducible refine obj_past ?_ ?_; · ((try simp only [DH.new_next, DH.set_next]); omega)) | exact obj_here rfl | exact obj_set)) rfl rfl) ?_ | refine op_at (opD_store rfl rfl rfl rfl rfl (by repeat (first | with_reducible assumption | (with_reducible refine obj_here ?_; rfl) | with_reducible exact obj_set | (with_reducible refine obj_skip ?_ ?_; · ((try simp only [DH.new_next, DH.set_next]); omega)) | (with_reducible refine obj_past ?_ ?_; · ((try simp only [DH.new_next, DH.set_next]); omega)) | exact obj_here rfl | exact obj_set)) rfl) ?_ | refine op_at (opD_eqb rfl rfl rfl rfl) ?_ | refine op_at (opD_neqb rfl rfl rfl rfl) ?_ | refine op_at rfl ?_); (all_goals try dsimp only [putD, DV.cells, DH.new_next, DH.set_next, List.length_cons, List.length_nil, Nat.reduceAdd, List.set_cons_zero, List.set_cons_succ, getD_zero, getD_succ, fieldAt_zero, fieldAt_succ, thenD, blockD, retR]))
      | (refine ops_off1 rfl rfl (by first | with_reducible assumption | with_reducible rfl | decide) ?_; (all_goals try dsimp only [putD, DV.cells, DH.new_next, DH.set_next, List.length_cons, List.length_nil, Nat.reduceAdd, List.set_cons_zero, List.set_cons_succ, getD_zero, getD_succ, fieldAt_zero, fieldAt_succ, thenD, blockD, retR]))
      | (refine ops_off0 rfl rfl (by first | with_reducible assumption | with_reducible rfl | decide) ?_; (all_goals try dsimp only [putD, DV.cells, DH.new_next, DH.set_next, List.length_cons, List.length_nil, Nat.reduceAdd, List.set_cons_zero, List.set_cons_succ, getD_zero, getD_succ, fieldAt_zero, fieldAt_succ, thenD, blockD, retR]))
      | (refine ops_offn rfl rfl ?_; (all_goals try dsimp only [putD, DV.cells, DH.new_next, DH.set_next, List.length_cons, List.length_nil, Nat.reduceAdd, List.set_cons_zero, List.set_cons_succ, getD_zero, getD_succ, fieldAt_zero, fieldAt_succ, thenD, blockD, retR]))
      | (refine ops_split1 rfl rfl ?_ ?_ <;> intro hb)
      | (refine ops_split0 rfl rfl ?_ ?_ <;> intro hb)
      | ((first | refine op_pick_t rfl rfl (by first | with_reducible assumption | with_reducible rfl | decide) rfl ?_ | refine op_pick_f rfl rfl (by first | with_reducible assumption | with_reducible rfl | decide) rfl ?_ | refine op_at (opD_load rfl rfl (by repeat (first | with_reducible assumption | (with_reducible refine obj_here ?_; rfl) | with_reducible exact obj_set | (with_reducible refine obj_skip ?_ ?_; · ((try simp only [DH.new_next, DH.set_next]); omega)) | (with_reducible refine obj_past ?_ ?_; · ((try simp only [DH.new_next, DH.set_next]); omega)) | exact obj_here rfl | exact obj_set)) rfl rfl) ?_ | refine op_at (opD_store rfl rfl rfl rfl rfl (by repeat (first | with_reducible assumption | (with_reducible refine obj_here ?_; rfl) | with_reducible exact obj_set | (with_reducible refine obj_skip ?_ ?_; · ((try simp only [DH.new_next, DH.set_next]); omega)) | (with_reducible refine obj_past ?_ ?_; · ((try simp only [DH.new_next, DH.set_next]); omega)) | exact obj_here rfl | exact obj_set)) rfl) ?_ | refine op_at (opD_eqb rfl rfl rfl rfl) ?_ | refine op_at (opD_neqb rfl rfl rfl rfl) ?_ | refine op_at rfl ?_); (all_goals try dsimp only [putD, DV.cells, DH.new_next, DH.set_next, List.length_cons, List.length_nil, Nat.reduceAdd, List.set_cons_zero, List.set_cons_succ, getD_zero, getD_succ, fieldAt_zero, fieldAt_succ, thenD, blockD, retR]))
      | refine dwp_cond_t rfl (by first | with_reducible assumption | with_reducible rfl | decide) ?_
      | refine dwp_cond_f rfl (by first | with_reducible assumption | with_reducible rfl | decide) ?_
      | (refine dwp_cond rfl ?_ ?_ <;> intro hb)
      | refine dwp_block ?_
      | refine dwp_skip ?_
      | refine dwp_ret ?_
      | refine dwp_exit ?_
      | dsimp only [thenD, blockD, retR]
      | (refine ⟨_, rfl, ?_⟩; try dsimp only)
      | fail)
    refine ⟨?_, rfl⟩
    rw [find_none fun j b hjb => hbefore j b (by have := (List.getElem?_eq_some_iff.mp hjb).1; omega) hjb]
    rfl
end Go.Det.M11

/- Whether things may be on the channels. -/
namespace Go.Det.M11
open Go Go.Det Go.Proofs
set_option maxRecDepth 4000
set_option maxHeartbeats 4000000
set_option linter.unusedVariables false
set_option linter.unusedSimpArgs false
theorem any_find (pf : AirV → Bool) (l : List AirV) : decide ((match l.findIdx? pf with | some k => (k : Int) | none => -1) ≥ 0) = l.any pf := by
  cases h : l.findIdx? pf with
  | none =>
    rw [List.findIdx?_eq_none_iff] at h
    have : l.any pf = false := by rw [List.any_eq_false]; intro a ha; rw [h a ha]; simp
    rw [this]; rfl
  | some k =>
    rw [List.findIdx?_eq_some_iff_getElem] at h
    obtain ⟨hk, hp, _⟩ := h
    have : l.any pf = true := List.any_eq_true.mpr ⟨l[k], List.getElem_mem hk, hp⟩
    rw [this]; simp
theorem contains51 {X : Ext} (hx : X 64 = none) (hx' : X 51 = none) {F : FuncId} {cap : List DV} {pf : AirV → Bool} (hF : ∀ (a : AirV) (H : DH) (K : DV → DH → Prop), K (.bool (pf a)) H → CallWp Try.prog X F (a.dv :: cap) H K)
    (H : DH) (loc i c : Nat) (ex : Bool) (l : List AirV) (hl : Lies H loc i l) (hlen : l.length ≤ maxLen) :
    CallWp Try.prog X 51 [.sl (some (loc, i, 8)) l.length c ex, .func (.func F) [] cap] H (fun r H' => r = .bool (l.any pf) ∧ H' = H) := by
  refine enter hx' Try.func51 rfl Try.ntmps51 rfl ?_
  dsimp only [List.cons_append, List.nil_append, List.length_cons, List.length_nil, List.replicate_succ, List.replicate_zero, Nat.reduceAdd, Nat.reduceSub]
  repeat' (first
    | refine dwp_seq ?_
    | refine dwp_region ?_
    | refine ops_nil ?_
    | (refine ops_plain rfl ?_; (first | (refine op_call rfl rfl rfl ?_; refine (index64 hx hF H loc i c ex l hl hlen).mono ?_; rintro r H' ⟨rfl, rfl⟩) | refine op_pick_t rfl rfl (by first | with_reducible assumption | with_reducible rfl | decide) rfl ?_ | refine op_pick_f rfl rfl (by first | with_reducible assumption | with_reducible rfl | decide) rfl ?_ | refine op_at (opD_load rfl rfl (by repeat (first | with_reducible assumption | (with_reducible refine obj_here ?_; rfl) | with_reducible exact obj_set | (with_reducible refine obj_skip ?_ ?_; · ((try simp only [DH.new_next, DH.set_next]); omega)) | (with_reducible refine obj_past ?_ ?_; · ((try simp only [DH.new_next, DH.set_next]); omega)) | exact obj_here rfl | exact obj_set)) rfl rfl) ?_ | refine op_at (opD_store rfl rfl rfl rfl rfl (by repeat (first | with_reducible assumption | (with_reducible refine obj_here ?_; rfl) | with_reducible exact obj_set | (with_reducible refine obj_skip ?_ ?_; · ((try simp only [DH.new_next, DH.set_next]); omega)) | (with_reducible refine obj_past ?_ ?_; · ((try simp only [DH.new_next, DH.set_next]); omega)) | exact obj_here rfl | exact obj_set)) rfl) ?_ | refine op_at (opD_eqb rfl rfl rfl rfl) ?_ | refine op_at (opD_neqb rfl rfl rfl rfl) ?_ | refine op_at rfl ?_); (all_goals try dsimp only [putD, DV.cells, DH.new_next, DH.set_next, List.length_cons, List.length_nil, Nat.reduceAdd, List.set_cons_zero, List.set_cons_succ, getD_zero, getD_succ, fieldAt_zero, fieldAt_succ, thenD, blockD, retR]))
    | (refine ops_on rfl rfl (by first | with_reducible assumption | with_reducible rfl | decide) ?_; (first | (refine op_call rfl rfl rfl ?_; refine (index64 hx hF H loc i c ex l hl hlen).mono ?_; rintro r H' ⟨rfl, rfl⟩) | refine op_pick_t rfl rfl (by first | with_reducible assumption | with_reducible rfl | decide) rfl ?_ | refine op_pick_f rfl rfl (by first | with_reducible assumption | with_reducible rfl | decide) rfl ?_ | refine op_at (opD_load rfl rfl (by repeat (first | with_reducible assumption | (with_reducible refine obj_here ?_; rfl) | with_reducible exact obj_set | (with_reducible refine obj_skip ?_ ?_; · ((try simp only [DH.new_next, DH.set_next]); omega)) | (with_reducible refine obj_past ?_ ?_; · ((try simp only [DH.new_next, DH.set_next]); omega)) | exact obj_here rfl | exact obj_set)) rfl rfl) ?_ | refine op_at (opD_store rfl rfl rfl rfl rfl (by repeat (first | with_reducible assumption | (with_reducible refine obj_here ?_; rfl) | with_reducible exact obj_set | (with_reducible refine obj_skip ?_ ?_; · ((try simp only [DH.new_next, DH.set_next]); omega)) | (with_reducible refine obj_past ?_ ?_; · ((try simp only [DH.new_next, DH.set_next]); omega)) | exact obj_here rfl | exact obj_set)) rfl) ?_ | refine op_at (opD_eqb rfl rfl rfl rfl) ?_ | refine op_at (opD_neqb rfl rfl rfl rfl) ?_ | refine op_at rfl ?_); (all_goals try dsimp only [putD, DV.cells, DH.new_next, DH.set_next, List.length_cons, List.length_nil, Nat.reduceAdd, List.set_cons_zero, List.set_cons_succ, getD_zero, getD_succ, fieldAt_zero, fieldAt_succ, thenD, blockD, retR]))
    | (refine ops_off1 rfl rfl (by first | with_reducible assumption | with_reducible rfl | decide) ?_; (all_goals try dsimp only [putD, DV.cells, DH.new_next, DH.set_next, List.length_cons, List.length_nil, Nat.reduceAdd, List.set_cons_zero, List.set_cons_succ, getD_zero, getD_succ, fieldAt_zero, fieldAt_succ, thenD, blockD, retR]))
    | (refine ops_off0 rfl rfl (by first | with_reducible assumption | with_reducible rfl | decide) ?_; (all_goals try dsimp only [putD, DV.cells, DH.new_next, DH.set_next, List.length_cons, List.length_nil, Nat.reduceAdd, List.set_cons_zero, List.set_cons_succ, getD_zero, getD_succ, fieldAt_zero, fieldAt_succ, thenD, blockD, retR]))
    | (refine ops_offn rfl rfl ?_; (all_goals try dsimp only [putD, DV.cells, DH.new_next, DH.set_next, List.length_cons, List.length_nil, Nat.reduceAdd, List.set_cons_zero, List.set_cons_succ, getD_zero, getD_succ, fieldAt_zero, fieldAt_succ, thenD, blockD, retR]))
    | (refine ops_split1 rfl rfl ?_ ?_ <;> intro hb)
    | (refine ops_split0 rfl rfl ?_ ?_ <;> intro hb)
    | ((first | (refine op_call rfl rfl rfl ?_; refine (index64 hx hF H loc i c ex l hl hlen).mono ?_; rintro r H' ⟨rfl, rfl⟩) | refine op_pick_t rfl rfl (by first | with_reducible assumption | with_reducible rfl | decide) rfl ?_ | refine op_pick_f rfl rfl (by first | with_reducible assumption | with_reducible rfl | decide) rfl ?_ | refine op_at (opD_load rfl rfl (by repeat (first | with_reducible assumption | (with_reducible refine obj_here ?_; rfl) | with_reducible exact obj_set | (with_reducible refine obj_skip ?_ ?_; · ((try simp only [DH.new_next, DH.set_next]); omega)) | (with_reducible refine obj_past ?_ ?_; · ((try simp only [DH.new_next, DH.set_next]); omega)) | exact obj_here rfl | exact obj_set)) rfl rfl) ?_ | refine op_at (opD_store rfl rfl rfl rfl rfl (by repeat (first | with_reducible assumption | (with_reducible refine obj_here ?_; rfl) | with_reducible exact obj_set | (with_reducible refine obj_skip ?_ ?_; · ((try simp only [DH.new_next, DH.set_next]); omega)) | (with_reducible refine obj_past ?_ ?_; · ((try simp only [DH.new_next, DH.set_next]); omega)) | exact obj_here rfl | exact obj_set)) rfl) ?_ | refine op_at (opD_eqb rfl rfl rfl rfl) ?_ | refine op_at (opD_neqb rfl rfl rfl rfl) ?_ | refine op_at rfl ?_); (all_goals try dsimp only [putD, DV.cells, DH.new_next, DH.set_next, List.length_cons, List.length_nil, Nat.reduceAdd, List.set_cons_zero, List.set_cons_succ, getD_zero, getD_succ, fieldAt_zero, fieldAt_succ, thenD, blockD, retR]))
    | refine dwp_cond_t rfl (by first | with_reducible assumption | with_reducible rfl | decide) ?_
    | refine dwp_cond_f rfl (by first | with_reducible assumption | with_reducible rfl | decide) ?_
    | (refine dwp_cond rfl ?_ ?_ <;> intro hb)
    | refine dwp_block ?_
    | refine dwp_skip ?_
    | refine dwp_ret ?_
    | refine dwp_exit ?_
    | dsimp only [thenD, blockD, retR]
    | (refine ⟨_, rfl, ?_⟩; try dsimp only)
    | fail)
  all_goals refine ⟨?_, rfl⟩
  all_goals rw [← any_find]
  all_goals rfl
def AirV.off (a : AirV) : Bool := !fitB a.fr a.ch a.at_ a.en a.n a.le
theorem off_call (a : AirV) (H : DH) (K : DV → DH → Prop) (h : K (.bool a.off) H) : CallWp Try.prog X2 48 [a.dv] H K := call_table (g := gOff) rfl rfl h
/-- Do the numbers rise? -/
def incB : List AirV → Bool
  | a :: b :: r => decide (a.id < b.id) && incB (b :: r)
  | _ => true
theorem inc_iff : ∀ (l : List AirV), incB l = true ↔ ∀ (j : Nat) (a b : AirV), l[j]? = some a → l[j + 1]? = some b → a.id < b.id
  | [] => by simp [incB]
  | [x] => by
    simp only [incB, true_iff]
    intro j a b h1 h2
    have := (List.getElem?_eq_some_iff.mp h2).1
    simp at this
  | x :: y :: r => by
    have ih := inc_iff (y :: r)
    simp only [incB, Bool.and_eq_true, decide_eq_true_eq, ih]
    constructor
    · rintro ⟨h1, h2⟩ j a b ha hb
      cases j with
      | zero => simp at ha hb; subst ha; subst hb; exact h1
      | succ j => exact h2 j a b (by simpa using ha) (by simpa using hb)
    · intro h
      exact ⟨h 0 x y rfl rfl, fun j a b ha hb => h (j + 1) a b (by simpa using ha) (by simpa using hb)⟩
/-- What Check answers. -/
def checkI (l : List AirV) : Int := if l.length ≤ 256 ∧ l.any AirV.off = false ∧ incB l = true then 0 else 1
theorem wrapSub {k : Nat} (h1 : 1 ≤ k) (h : k < 9223372036854775807) : IntKind.i64.wrap ((k : Int) - 1) = ((k - 1 : Nat) : Int) := by
  unfold IntKind.wrap
  simp [IntKind.signed, IntKind.bits]
  omega
theorem check19 (H : DH) (loc i c : Nat) (ex : Bool) (l : List AirV) (hl : Lies H loc i l) (hlen : l.length ≤ maxLen) :
    CallWp Try.prog X2 19 [.sl (some (loc, i, 8)) l.length c ex] H (fun r H' => r = .int .i64 (checkI l) ∧ H' = H) := by
  refine enter rfl Try.func19 rfl Try.ntmps19 rfl ?_
  dsimp only [List.cons_append, List.nil_append, List.length_cons, List.length_nil, List.replicate_succ, List.replicate_zero, Nat.reduceAdd, Nat.reduceSub]
  repeat' (first
    | refine dwp_seq ?_
    | refine dwp_region ?_
    | refine ops_nil ?_
    | (refine ops_plain rfl ?_; (first | (refine op_call rfl rfl rfl ?_; refine (contains51 rfl rfl off_call H loc i c ex l hl hlen).mono ?_; rintro r H1 ⟨rfl, rfl⟩) | refine op_pick_t rfl rfl (by first | with_reducible assumption | with_reducible rfl | decide) rfl ?_ | refine op_pick_f rfl rfl (by first | with_reducible assumption | with_reducible rfl | decide) rfl ?_ | refine op_at (opD_load rfl rfl (by repeat (first | with_reducible assumption | (with_reducible refine obj_here ?_; rfl) | with_reducible exact obj_set | (with_reducible refine obj_skip ?_ ?_; · ((try simp only [DH.new_next, DH.set_next]); omega)) | (with_reducible refine obj_past ?_ ?_; · ((try simp only [DH.new_next, DH.set_next]); omega)) | exact obj_here rfl | exact obj_set)) rfl rfl) ?_ | refine op_at (opD_store rfl rfl rfl rfl rfl (by repeat (first | with_reducible assumption | (with_reducible refine obj_here ?_; rfl) | with_reducible exact obj_set | (with_reducible refine obj_skip ?_ ?_; · ((try simp only [DH.new_next, DH.set_next]); omega)) | (with_reducible refine obj_past ?_ ?_; · ((try simp only [DH.new_next, DH.set_next]); omega)) | exact obj_here rfl | exact obj_set)) rfl) ?_ | refine op_at (opD_eqb rfl rfl rfl rfl) ?_ | refine op_at (opD_neqb rfl rfl rfl rfl) ?_ | refine op_at rfl ?_); (all_goals try dsimp only [putD, DV.cells, DH.new_next, DH.set_next, List.length_cons, List.length_nil, Nat.reduceAdd, List.set_cons_zero, List.set_cons_succ, getD_zero, getD_succ, fieldAt_zero, fieldAt_succ, thenD, blockD, retR]))
    | (refine ops_on rfl rfl (by first | with_reducible assumption | with_reducible rfl | decide) ?_; (first | (refine op_call rfl rfl rfl ?_; refine (contains51 rfl rfl off_call H loc i c ex l hl hlen).mono ?_; rintro r H1 ⟨rfl, rfl⟩) | refine op_pick_t rfl rfl (by first | with_reducible assumption | with_reducible rfl | decide) rfl ?_ | refine op_pick_f rfl rfl (by first | with_reducible assumption | with_reducible rfl | decide) rfl ?_ | refine op_at (opD_load rfl rfl (by repeat (first | with_reducible assumption | (with_reducible refine obj_here ?_; rfl) | with_reducible exact obj_set | (with_reducible refine obj_skip ?_ ?_; · ((try simp only [DH.new_next, DH.set_next]); omega)) | (with_reducible refine obj_past ?_ ?_; · ((try simp only [DH.new_next, DH.set_next]); omega)) | exact obj_here rfl | exact obj_set)) rfl rfl) ?_ | refine op_at (opD_store rfl rfl rfl rfl rfl (by repeat (first | with_reducible assumption | (with_reducible refine obj_here ?_; rfl) | with_reducible exact obj_set | (with_reducible refine obj_skip ?_ ?_; · ((try simp only [DH.new_next, DH.set_next]); omega)) | (with_reducible refine obj_past ?_ ?_; · ((try simp only [DH.new_next, DH.set_next]); omega)) | exact obj_here rfl | exact obj_set)) rfl) ?_ | refine op_at (opD_eqb rfl rfl rfl rfl) ?_ | refine op_at (opD_neqb rfl rfl rfl rfl) ?_ | refine op_at rfl ?_); (all_goals try dsimp only [putD, DV.cells, DH.new_next, DH.set_next, List.length_cons, List.length_nil, Nat.reduceAdd, List.set_cons_zero, List.set_cons_succ, getD_zero, getD_succ, fieldAt_zero, fieldAt_succ, thenD, blockD, retR]))
    | (refine ops_off1 rfl rfl (by first | with_reducible assumption | with_reducible rfl | decide) ?_; (all_goals try dsimp only [putD, DV.cells, DH.new_next, DH.set_next, List.length_cons, List.length_nil, Nat.reduceAdd, List.set_cons_zero, List.set_cons_succ, getD_zero, getD_succ, fieldAt_zero, fieldAt_succ, thenD, blockD, retR]))
    | (refine ops_off0 rfl rfl (by first | with_reducible assumption | with_reducible rfl | decide) ?_; (all_goals try dsimp only [putD, DV.cells, DH.new_next, DH.set_next, List.length_cons, List.length_nil, Nat.reduceAdd, List.set_cons_zero, List.set_cons_succ, getD_zero, getD_succ, fieldAt_zero, fieldAt_succ, thenD, blockD, retR]))
    | (refine ops_offn rfl rfl ?_; (all_goals try dsimp only [putD, DV.cells, DH.new_next, DH.set_next, List.length_cons, List.length_nil, Nat.reduceAdd, List.set_cons_zero, List.set_cons_succ, getD_zero, getD_succ, fieldAt_zero, fieldAt_succ, thenD, blockD, retR]))
    | (refine ops_split1 rfl rfl ?_ ?_ <;> intro hb)
    | (refine ops_split0 rfl rfl ?_ ?_ <;> intro hb)
    | ((first | (refine op_call rfl rfl rfl ?_; refine (contains51 rfl rfl off_call H loc i c ex l hl hlen).mono ?_; rintro r H1 ⟨rfl, rfl⟩) | refine op_pick_t rfl rfl (by first | with_reducible assumption | with_reducible rfl | decide) rfl ?_ | refine op_pick_f rfl rfl (by first | with_reducible assumption | with_reducible rfl | decide) rfl ?_ | refine op_at (opD_load rfl rfl (by repeat (first | with_reducible assumption | (with_reducible refine obj_here ?_; rfl) | with_reducible exact obj_set | (with_reducible refine obj_skip ?_ ?_; · ((try simp only [DH.new_next, DH.set_next]); omega)) | (with_reducible refine obj_past ?_ ?_; · ((try simp only [DH.new_next, DH.set_next]); omega)) | exact obj_here rfl | exact obj_set)) rfl rfl) ?_ | refine op_at (opD_store rfl rfl rfl rfl rfl (by repeat (first | with_reducible assumption | (with_reducible refine obj_here ?_; rfl) | with_reducible exact obj_set | (with_reducible refine obj_skip ?_ ?_; · ((try simp only [DH.new_next, DH.set_next]); omega)) | (with_reducible refine obj_past ?_ ?_; · ((try simp only [DH.new_next, DH.set_next]); omega)) | exact obj_here rfl | exact obj_set)) rfl) ?_ | refine op_at (opD_eqb rfl rfl rfl rfl) ?_ | refine op_at (opD_neqb rfl rfl rfl rfl) ?_ | refine op_at rfl ?_); (all_goals try dsimp only [putD, DV.cells, DH.new_next, DH.set_next, List.length_cons, List.length_nil, Nat.reduceAdd, List.set_cons_zero, List.set_cons_succ, getD_zero, getD_succ, fieldAt_zero, fieldAt_succ, thenD, blockD, retR]))
    | refine dwp_cond_t rfl (by first | with_reducible assumption | with_reducible rfl | decide) ?_
    | refine dwp_cond_f rfl (by first | with_reducible assumption | with_reducible rfl | decide) ?_
    | (refine dwp_cond rfl ?_ ?_ <;> intro hb)
    | refine dwp_block ?_
    | refine dwp_skip ?_
    | refine dwp_ret ?_
    | refine dwp_exit ?_
    | dsimp only [thenD, blockD, retR]
    | (refine ⟨_, rfl, ?_⟩; try dsimp only)
    | fail)
  · refine ⟨?_, rfl⟩
    have : checkI l = 1 := by unfold checkI; rw [if_neg]; rintro ⟨_, h, _⟩; rw [hb] at h; cases h
    rw [this]
    rfl
  · obtain ⟨ro, rs, ho, hrow⟩ := hl
    rename_i hb0
    have h256 : l.length ≤ 256 := by simp only [decide_eq_false_iff_not] at hb0; omega
    refine dwp_loop (fun st => ∃ (k : Nat) (x11 x12 x13 x14 x15 x16 x17 x18 x19 x20 x21 x22 x23 x24 x25 x26 x27 x28 : DV), 1 ≤ k ∧ (k ≤ l.length ∨ k = 1) ∧ (∀ (j : Nat) (a b : AirV), j + 1 < k → l[j]? = some a → l[j + 1]? = some b → a.id < b.id) ∧ st = ⟨[.sl (some (loc, i, 8)) l.length c ex, undefD, .int .i64 0, .int .i64 k, .sl (some (loc, i, 8)) l.length c ex, .int .i64 l.length, .bool (decide ((l.length : Int) > 256)), .bool (decide ((l.length : Int) > 256)), .sl (some (loc, i, 8)) l.length c ex, .bool (l.any AirV.off), .bool (l.any AirV.off), x11, x12, x13, x14, x15, x16, x17, x18, x19, x20, x21, x22, x23, x24, x25, x26, x27, x28], H1⟩) (fun st => 1 + l.length - kOf st 3) ⟨1, undefD, undefD, undefD, undefD, undefD, undefD, undefD, undefD, undefD, undefD, undefD, undefD, undefD, undefD, undefD, undefD, undefD, undefD, Nat.le_refl _, .inr rfl, fun j a b h => by omega, rfl⟩ ?_
    rintro st ⟨k, x11, x12, x13, x14, x15, x16, x17, x18, x19, x20, x21, x22, x23, x24, x25, x26, x27, x28, hk1, hk, hbefore, rfl⟩
    by_cases hlt : k < l.length
    · obtain ⟨b, hbk⟩ : ∃ b, l[k]? = some b := ⟨l[k], List.getElem?_eq_getElem hlt⟩
      obtain ⟨a, hak⟩ : ∃ a, l[k - 1]? = some a := ⟨l[k - 1], List.getElem?_eq_getElem (by omega)⟩
      have hws := wrapSub hk1 (by omega)
      have hrk : rs[i + ((k : Int)).toNat]? = some b.cells := by rw [Int.toNat_natCast]; exact hrow k b hbk
      have hrk1 : rs[i + (IntKind.i64.wrap ((k : Int) - 1)).toNat]? = some a.cells := by rw [hws, Int.toNat_natCast]; exact hrow _ a hak
      have hc : decide ((k : Int) < (l.length : Int)) = true := by simp [hlt]
      have hin : 0 ≤ (k : Int) ∧ (k : Int) < (l.length : Int) := by omega
      have hin1 : 0 ≤ IntKind.i64.wrap ((k : Int) - 1) ∧ IntKind.i64.wrap ((k : Int) - 1) < (l.length : Int) := by rw [hws]; omega
      repeat' (first
        | refine dwp_seq ?_
        | refine dwp_region ?_
        | refine ops_nil ?_
        | (refine drawc_pure (wanted_plain rfl) rfl rfl (opD_index rfl rfl rfl rfl rfl hin) ?_; (all_goals try dsimp only [putD, DV.cells, DH.new_next, DH.set_next, List.length_cons, List.length_nil, Nat.reduceAdd, List.set_cons_zero, List.set_cons_succ, getD_zero, getD_succ, fieldAt_zero, fieldAt_succ, thenD, blockD, retR]))
        | (refine drawc_pure (wanted_plain rfl) rfl rfl (opD_index rfl rfl rfl rfl rfl hin1) ?_; (all_goals try dsimp only [putD, DV.cells, DH.new_next, DH.set_next, List.length_cons, List.length_nil, Nat.reduceAdd, List.set_cons_zero, List.set_cons_succ, getD_zero, getD_succ, fieldAt_zero, fieldAt_succ, thenD, blockD, retR]))
        | (refine drawc_read (wanted_plain rfl) rfl rfl (by kernel_rfl) (opD_load rfl rfl ho hrk rfl) ?_; (all_goals try dsimp only [putD, DV.cells, DH.new_next, DH.set_next, List.length_cons, List.length_nil, Nat.reduceAdd, List.set_cons_zero, List.set_cons_succ, getD_zero, getD_succ, fieldAt_zero, fieldAt_succ, thenD, blockD, retR]))
        | (refine drawc_read (wanted_plain rfl) rfl rfl (by kernel_rfl) (opD_load rfl rfl ho hrk1 rfl) ?_; (all_goals try dsimp only [putD, DV.cells, DH.new_next, DH.set_next, List.length_cons, List.length_nil, Nat.reduceAdd, List.set_cons_zero, List.set_cons_succ, getD_zero, getD_succ, fieldAt_zero, fieldAt_succ, thenD, blockD, retR]))
        | (refine ops_plain rfl ?_; (first | refine op_pick_t rfl rfl (by first | with_reducible assumption | with_reducible rfl | decide) rfl ?_ | refine op_pick_f rfl rfl (by first | with_reducible assumption | with_reducible rfl | decide) rfl ?_ | refine op_at (opD_load rfl rfl (by repeat (first | with_reducible assumption | (with_reducible refine obj_here ?_; rfl) | with_reducible exact obj_set | (with_reducible refine obj_skip ?_ ?_; · ((try simp only [DH.new_next, DH.set_next]); omega)) | (with_reducible refine obj_past ?_ ?_; · ((try simp only [DH.new_next, DH.set_next]); omega)) | exact obj_here rfl | exact obj_set)) rfl rfl) ?_ | refine op_at (opD_store rfl rfl rfl rfl rfl (by repeat (first | with_reducible assumption | (with_reducible refine obj_here ?_; rfl) | with_reducible exact obj_set | (with_reducible refine obj_skip ?_ ?_; · ((try simp only [DH.new_next, DH.set_next]); omega)) | (with_reducible refine obj_past ?_ ?_; · ((try simp only [DH.new_next, DH.set_next]); omega)) | exact obj_here rfl | exact obj_set)) rfl) ?_ | refine op_at (opD_eqb rfl rfl rfl rfl) ?_ | refine op_at (opD_neqb rfl rfl rfl rfl) ?_ | refine op_at rfl ?_); (all_goals try dsimp only [putD, DV.cells, DH.new_next, DH.set_next, List.length_cons, List.length_nil, Nat.reduceAdd, List.set_cons_zero, List.set_cons_succ, getD_zero, getD_succ, fieldAt_zero, fieldAt_succ, thenD, blockD, retR]))
        | (refine ops_on rfl rfl (by first | with_reducible assumption | with_reducible rfl | decide) ?_; (first | refine op_pick_t rfl rfl (by first | with_reducible assumption | with_reducible rfl | decide) rfl ?_ | refine op_pick_f rfl rfl (by first | with_reducible assumption | with_reducible rfl | decide) rfl ?_ | refine op_at (opD_load rfl rfl (by repeat (first | with_reducible assumption | (with_reducible refine obj_here ?_; rfl) | with_reducible exact obj_set | (with_reducible refine obj_skip ?_ ?_; · ((try simp only [DH.new_next, DH.set_next]); omega)) | (with_reducible refine obj_past ?_ ?_; · ((try simp only [DH.new_next, DH.set_next]); omega)) | exact obj_here rfl | exact obj_set)) rfl rfl) ?_ | refine op_at (opD_store rfl rfl rfl rfl rfl (by repeat (first | with_reducible assumption | (with_reducible refine obj_here ?_; rfl) | with_reducible exact obj_set | (with_reducible refine obj_skip ?_ ?_; · ((try simp only [DH.new_next, DH.set_next]); omega)) | (with_reducible refine obj_past ?_ ?_; · ((try simp only [DH.new_next, DH.set_next]); omega)) | exact obj_here rfl | exact obj_set)) rfl) ?_ | refine op_at (opD_eqb rfl rfl rfl rfl) ?_ | refine op_at (opD_neqb rfl rfl rfl rfl) ?_ | refine op_at rfl ?_); (all_goals try dsimp only [putD, DV.cells, DH.new_next, DH.set_next, List.length_cons, List.length_nil, Nat.reduceAdd, List.set_cons_zero, List.set_cons_succ, getD_zero, getD_succ, fieldAt_zero, fieldAt_succ, thenD, blockD, retR]))
        | (refine ops_off1 rfl rfl (by first | with_reducible assumption | with_reducible rfl | decide) ?_; (all_goals try dsimp only [putD, DV.cells, DH.new_next, DH.set_next, List.length_cons, List.length_nil, Nat.reduceAdd, List.set_cons_zero, List.set_cons_succ, getD_zero, getD_succ, fieldAt_zero, fieldAt_succ, thenD, blockD, retR]))
        | (refine ops_off0 rfl rfl (by first | with_reducible assumption | with_reducible rfl | decide) ?_; (all_goals try dsimp only [putD, DV.cells, DH.new_next, DH.set_next, List.length_cons, List.length_nil, Nat.reduceAdd, List.set_cons_zero, List.set_cons_succ, getD_zero, getD_succ, fieldAt_zero, fieldAt_succ, thenD, blockD, retR]))
        | (refine ops_offn rfl rfl ?_; (all_goals try dsimp only [putD, DV.cells, DH.new_next, DH.set_next, List.length_cons, List.length_nil, Nat.reduceAdd, List.set_cons_zero, List.set_cons_succ, getD_zero, getD_succ, fieldAt_zero, fieldAt_succ, thenD, blockD, retR]))
        | (refine ops_split1 rfl rfl ?_ ?_ <;> intro hb)
        | (refine ops_split0 rfl rfl ?_ ?_ <;> intro hb)
        | ((first | refine op_pick_t rfl rfl (by first | with_reducible assumption | with_reducible rfl | decide) rfl ?_ | refine op_pick_f rfl rfl (by first | with_reducible assumption | with_reducible rfl | decide) rfl ?_ | refine op_at (opD_load rfl rfl (by repeat (first | with_reducible assumption | (with_reducible refine obj_here ?_; rfl) | with_reducible exact obj_set | (with_reducible refine obj_skip ?_ ?_; · ((try simp only [DH.new_next, DH.set_next]); omega)) | (with_reducible refine obj_past ?_ ?_; · ((try simp only [DH.new_next, DH.set_next]); omega)) | exact obj_here rfl | exact obj_set)) rfl rfl) ?_ | refine op_at (opD_store rfl rfl rfl rfl rfl (by repeat (first | with_reducible assumption | (with_reducible refine obj_here ?_; rfl) | with_reducible exact obj_set | (with_reducible refine obj_skip ?_ ?_; · ((try simp only [DH.new_next, DH.set_next]); omega)) | (with_reducible refine obj_past ?_ ?_; · ((try simp only [DH.new_next, DH.set_next]); omega)) | exact obj_here rfl | exact obj_set)) rfl) ?_ | refine op_at (opD_eqb rfl rfl rfl rfl) ?_ | refine op_at (opD_neqb rfl rfl rfl rfl) ?_ | refine op_at rfl ?_); (all_goals try dsimp only [putD, DV.cells, DH.new_next, DH.set_next, List.length_cons, List.length_nil, Nat.reduceAdd, List.set_cons_zero, List.set_cons_succ, getD_zero, getD_succ, fieldAt_zero, fieldAt_succ, thenD, blockD, retR]))
        | refine dwp_drawc _ rfl ?_
        | refine drawc_nil ?_
        | (refine drawc_pick_t (by first | exact wanted_plain rfl | exact wanted_on rfl rfl (by first | with_reducible assumption | with_reducible rfl | decide)) rfl rfl (by first | with_reducible assumption | with_reducible rfl | decide) rfl ?_; (all_goals try dsimp only [putD, DV.cells, DH.new_next, DH.set_next, List.length_cons, List.length_nil, Nat.reduceAdd, List.set_cons_zero, List.set_cons_succ, getD_zero, getD_succ, fieldAt_zero, fieldAt_succ, thenD, blockD, retR]))
        | (refine drawc_pick_f (by first | exact wanted_plain rfl | exact wanted_on rfl rfl (by first | with_reducible assumption | with_reducible rfl | decide)) rfl rfl (by first | with_reducible assumption | with_reducible rfl | decide) rfl ?_; (all_goals try dsimp only [putD, DV.cells, DH.new_next, DH.set_next, List.length_cons, List.length_nil, Nat.reduceAdd, List.set_cons_zero, List.set_cons_succ, getD_zero, getD_succ, fieldAt_zero, fieldAt_succ, thenD, blockD, retR]))
        | (refine drawc_pure (by first | exact wanted_plain rfl | exact wanted_on rfl rfl (by first | with_reducible assumption | with_reducible rfl | decide)) rfl rfl rfl ?_; (all_goals try dsimp only [putD, DV.cells, DH.new_next, DH.set_next, List.length_cons, List.length_nil, Nat.reduceAdd, List.set_cons_zero, List.set_cons_succ, getD_zero, getD_succ, fieldAt_zero, fieldAt_succ, thenD, blockD, retR]))
        | (refine drawc_read (by first | exact wanted_plain rfl | exact wanted_on rfl rfl (by first | with_reducible assumption | with_reducible rfl | decide)) rfl rfl (by kernel_rfl) (opD_load rfl rfl (by repeat (first | with_reducible assumption | (with_reducible refine obj_here ?_; rfl) | with_reducible exact obj_set | (with_reducible refine obj_skip ?_ ?_; · ((try simp only [DH.new_next, DH.set_next]); omega)) | (with_reducible refine obj_past ?_ ?_; · ((try simp only [DH.new_next, DH.set_next]); omega)) | exact obj_here rfl | exact obj_set)) rfl rfl) ?_; (all_goals try dsimp only [putD, DV.cells, DH.new_next, DH.set_next, List.length_cons, List.length_nil, Nat.reduceAdd, List.set_cons_zero, List.set_cons_succ, getD_zero, getD_succ, fieldAt_zero, fieldAt_succ, thenD, blockD, retR]))
        | (refine drawc_read (by first | exact wanted_plain rfl | exact wanted_on rfl rfl (by first | with_reducible assumption | with_reducible rfl | decide)) rfl rfl (by kernel_rfl) rfl ?_; (all_goals try dsimp only [putD, DV.cells, DH.new_next, DH.set_next, List.length_cons, List.length_nil, Nat.reduceAdd, List.set_cons_zero, List.set_cons_succ, getD_zero, getD_succ, fieldAt_zero, fieldAt_succ, thenD, blockD, retR]))
        | (refine drawc_sync (by first | exact wanted_plain rfl | exact wanted_on rfl rfl (by first | with_reducible assumption | with_reducible rfl | decide)) rfl (by kernel_rfl) ?_; (first | refine op_pick_t rfl rfl (by first | with_reducible assumption | with_reducible rfl | decide) rfl ?_ | refine op_pick_f rfl rfl (by first | with_reducible assumption | with_reducible rfl | decide) rfl ?_ | refine op_at (opD_load rfl rfl (by repeat (first | with_reducible assumption | (with_reducible refine obj_here ?_; rfl) | with_reducible exact obj_set | (with_reducible refine obj_skip ?_ ?_; · ((try simp only [DH.new_next, DH.set_next]); omega)) | (with_reducible refine obj_past ?_ ?_; · ((try simp only [DH.new_next, DH.set_next]); omega)) | exact obj_here rfl | exact obj_set)) rfl rfl) ?_ | refine op_at (opD_store rfl rfl rfl rfl rfl (by repeat (first | with_reducible assumption | (with_reducible refine obj_here ?_; rfl) | with_reducible exact obj_set | (with_reducible refine obj_skip ?_ ?_; · ((try simp only [DH.new_next, DH.set_next]); omega)) | (with_reducible refine obj_past ?_ ?_; · ((try simp only [DH.new_next, DH.set_next]); omega)) | exact obj_here rfl | exact obj_set)) rfl) ?_ | refine op_at (opD_eqb rfl rfl rfl rfl) ?_ | refine op_at (opD_neqb rfl rfl rfl rfl) ?_ | refine op_at rfl ?_); (all_goals try dsimp only [putD, DV.cells, DH.new_next, DH.set_next, List.length_cons, List.length_nil, Nat.reduceAdd, List.set_cons_zero, List.set_cons_succ, getD_zero, getD_succ, fieldAt_zero, fieldAt_succ, thenD, blockD, retR]))
        | (refine drawc_off (by first | exact wanted_off1 rfl rfl (by first | with_reducible assumption | with_reducible rfl | decide) | exact wanted_off0 rfl rfl (by first | with_reducible assumption | with_reducible rfl | decide) | exact wanted_none rfl rfl) ?_; (all_goals try dsimp only [putD, DV.cells, DH.new_next, DH.set_next, List.length_cons, List.length_nil, Nat.reduceAdd, List.set_cons_zero, List.set_cons_succ, getD_zero, getD_succ, fieldAt_zero, fieldAt_succ, thenD, blockD, retR]))
        | refine dwp_cond_t rfl (by first | with_reducible assumption | with_reducible rfl | decide) ?_
        | refine dwp_cond_f rfl (by first | with_reducible assumption | with_reducible rfl | decide) ?_
        | (refine dwp_cond rfl ?_ ?_ <;> intro hb)
        | refine dwp_block ?_
        | refine dwp_skip ?_
        | refine dwp_ret ?_
        | refine dwp_exit ?_
        | dsimp only [thenD, blockD, retR]
        | (refine ⟨_, rfl, ?_⟩; try dsimp only)
        | fail)
      · refine ⟨?_, rfl⟩
        have : checkI l = 1 := by
          unfold checkI
          rw [if_neg]
          rintro ⟨_, _, h⟩
          have h1 := (inc_iff l).mp h (k - 1) a b hak (by rw [show k - 1 + 1 = k by omega]; exact hbk)
          simp only [decide_eq_true_eq] at hb
          omega
        rw [this]
        rfl
      · have hw := wrapNat (k := k) (by omega)
        rw [hw]
        refine ⟨⟨k + 1, _, _, _, _, _, _, _, _, _, _, _, _, _, _, _, _, _, _, by omega, .inl (by omega), fun j a' b' hj h1 h2 => ?_, rfl⟩, ?_⟩
        · by_cases e : j + 1 < k
          · exact hbefore j a' b' e h1 h2
          · have e1 : j = k - 1 := by omega
            have e2 : j + 1 = k := by omega
            rw [e2] at h2
            rw [e1] at h1
            rw [hak] at h1; cases h1
            rw [hbk] at h2; cases h2
            simp only [decide_eq_false_iff_not] at hb
            omega
        · show 1 + l.length - ((k + 1 : Nat) : Int).toNat < 1 + l.length - (k : Int).toNat
          omega
    · have hc : decide ((k : Int) < (l.length : Int)) = false := by simp; omega
      repeat' (first
        | refine dwp_seq ?_
        | refine dwp_region ?_
        | refine ops_nil ?_
        | (refine ops_plain rfl ?_; (first | refine op_pick_t rfl rfl (by first | with_reducible assumption | with_reducible rfl | decide) rfl ?_ | refine op_pick_f rfl rfl (by first | with_reducible assumption | with_reducible rfl | decide) rfl ?_ | refine op_at (opD_load rfl rfl (by repeat (first | with_reducible assumption | (with_reducible refine obj_here ?_; rfl) | with_reducible exact obj_set | (with_reducible refine obj_skip ?_ ?_; · ((try simp only [DH.new_next, DH.set_next]); omega)) | (with_reducible refine obj_past ?_ ?_; · ((try simp only [DH.new_next, DH.set_next]); omega)) | exact obj_here rfl | exact obj_set)) rfl rfl) ?_ | refine op_at (opD_store rfl rfl rfl rfl rfl (by repeat (first | with_reducible assumption | (with_reducible refine obj_here ?_; rfl) | with_reducible exact obj_set | (with_reducible refine obj_skip ?_ ?_; · ((try simp only [DH.new_next, DH.set_next]); omega)) | (with_reducible refine obj_past ?_ ?_; · ((try simp only [DH.new_next, DH.set_next]); omega)) | exact obj_here rfl | exact obj_set)) rfl) ?_ | refine op_at (opD_eqb rfl rfl rfl rfl) ?_ | refine op_at (opD_neqb rfl rfl rfl rfl) ?_ | refine op_at rfl ?_); (all_goals try dsimp only [putD, DV.cells, DH.new_next, DH.set_next, List.length_cons, List.length_nil, Nat.reduceAdd, List.set_cons_zero, List.set_cons_succ, getD_zero, getD_succ, fieldAt_zero, fieldAt_succ, thenD, blockD, retR]))
        | (refine ops_on rfl rfl (by first | with_reducible assumption | with_reducible rfl | decide) ?_; (first | refine op_pick_t rfl rfl (by first | with_reducible assumption | with_reducible rfl | decide) rfl ?_ | refine op_pick_f rfl rfl (by first | with_reducible assumption | with_reducible rfl | decide) rfl ?_ | refine op_at (opD_load rfl rfl (by repeat (first | with_reducible assumption | (with_reducible refine obj_here ?_; rfl) | with_reducible exact obj_set | (with_reducible refine obj_skip ?_ ?_; · ((try simp only [DH.new_next, DH.set_next]); omega)) | (with_reducible refine obj_past ?_ ?_; · ((try simp only [DH.new_next, DH.set_next]); omega)) | exact obj_here rfl | exact obj_set)) rfl rfl) ?_ | refine op_at (opD_store rfl rfl rfl rfl rfl (by repeat (first | with_reducible assumption | (with_reducible refine obj_here ?_; rfl) | with_reducible exact obj_set | (with_reducible refine obj_skip ?_ ?_; · ((try simp only [DH.new_next, DH.set_next]); omega)) | (with_reducible refine obj_past ?_ ?_; · ((try simp only [DH.new_next, DH.set_next]); omega)) | exact obj_here rfl | exact obj_set)) rfl) ?_ | refine op_at (opD_eqb rfl rfl rfl rfl) ?_ | refine op_at (opD_neqb rfl rfl rfl rfl) ?_ | refine op_at rfl ?_); (all_goals try dsimp only [putD, DV.cells, DH.new_next, DH.set_next, List.length_cons, List.length_nil, Nat.reduceAdd, List.set_cons_zero, List.set_cons_succ, getD_zero, getD_succ, fieldAt_zero, fieldAt_succ, thenD, blockD, retR]))
        | (refine ops_off1 rfl rfl (by first | with_reducible assumption | with_reducible rfl | decide) ?_; (all_goals try dsimp only [putD, DV.cells, DH.new_next, DH.set_next, List.length_cons, List.length_nil, Nat.reduceAdd, List.set_cons_zero, List.set_cons_succ, getD_zero, getD_succ, fieldAt_zero, fieldAt_succ, thenD, blockD, retR]))
        | (refine ops_off0 rfl rfl (by first | with_reducible assumption | with_reducible rfl | decide) ?_; (all_goals try dsimp only [putD, DV.cells, DH.new_next, DH.set_next, List.length_cons, List.length_nil, Nat.reduceAdd, List.set_cons_zero, List.set_cons_succ, getD_zero, getD_succ, fieldAt_zero, fieldAt_succ, thenD, blockD, retR]))
        | (refine ops_offn rfl rfl ?_; (all_goals try dsimp only [putD, DV.cells, DH.new_next, DH.set_next, List.length_cons, List.length_nil, Nat.reduceAdd, List.set_cons_zero, List.set_cons_succ, getD_zero, getD_succ, fieldAt_zero, fieldAt_succ, thenD, blockD, retR]))
        | (refine ops_split1 rfl rfl ?_ ?_ <;> intro hb)
        | (refine ops_split0 rfl rfl ?_ ?_ <;> intro hb)
        | ((first | refine op_pick_t rfl rfl (by first | with_reducible assumption | with_reducible rfl | decide) rfl ?_ | refine op_pick_f rfl rfl (by first | with_reducible assumption | with_reducible rfl | decide) rfl ?_ | refine op_at (opD_load rfl rfl (by repeat (first | with_reducible assumption | (with_reducible refine obj_here ?_; rfl) | with_reducible exact obj_set | (with_reducible refine obj_skip ?_ ?_; · ((try simp only [DH.new_next, DH.set_next]); omega)) | (with_reducible refine obj_past ?_ ?_; · ((try simp only [DH.new_next, DH.set_next]); omega)) | exact obj_here rfl | exact obj_set)) rfl rfl) ?_ | refine op_at (opD_store rfl rfl rfl rfl rfl (by repeat (first | with_reducible assumption | (with_reducible refine obj_here ?_; rfl) | with_reducible exact obj_set | (with_reducible refine obj_skip ?_ ?_; · ((try simp only [DH.new_next, DH.set_next]); omega)) | (with_reducible refine obj_past ?_ ?_; · ((try simp only [DH.new_next, DH.set_next]); omega)) | exact obj_here rfl | exact obj_set)) rfl) ?_ | refine op_at (opD_eqb rfl rfl rfl rfl) ?_ | refine op_at (opD_neqb rfl rfl rfl rfl) ?_ | refine op_at rfl ?_); (all_goals try dsimp only [putD, DV.cells, DH.new_next, DH.set_next, List.length_cons, List.length_nil, Nat.reduceAdd, List.set_cons_zero, List.set_cons_succ, getD_zero, getD_succ, fieldAt_zero, fieldAt_succ, thenD, blockD, retR]))
        | refine dwp_cond_t rfl (by first | with_reducible assumption | with_reducible rfl | decide) ?_
        | refine dwp_cond_f rfl (by first | with_reducible assumption | with_reducible rfl | decide) ?_
        | (refine dwp_cond rfl ?_ ?_ <;> intro hb)
        | refine dwp_block ?_
        | refine dwp_skip ?_
        | refine dwp_ret ?_
        | refine dwp_exit ?_
        | dsimp only [thenD, blockD, retR]
        | (refine ⟨_, rfl, ?_⟩; try dsimp only)
        | fail)
      refine ⟨?_, rfl⟩
      have : checkI l = 0 := by
        unfold checkI
        rw [if_pos]
        refine ⟨h256, by assumption, (inc_iff l).mpr fun j a b h1 h2 => hbefore j a b ?_ h1 h2⟩
        have := (List.getElem?_eq_some_iff.mp h2).1
        omega
      rw [this]
      rfl
  · refine ⟨?_, rfl⟩
    have : checkI l = 1 := by
      unfold checkI
      rw [if_neg]
      rintro ⟨h, _⟩
      simp only [decide_eq_true_eq] at hb
      omega
    rw [this]
    rfl
end Go.Det.M11

/- Check as a table; lists of things out of rows. -/
namespace Go.Det.M11
open Go Go.Det Go.Proofs
set_option maxRecDepth 4000
set_option maxHeartbeats 4000000
set_option linter.unusedVariables false
set_option linter.unusedSimpArgs false
def airOf : List DV → Option AirV
  | [.int .u64 id, .int .i64 fr, .int .i64 ch, .int .i64 at_, .int .i64 en, .sl p n c ex, .bool bad, .int .i64 le] => some ⟨id, fr, ch, at_, en, p, n, c, ex, bad, le⟩
  | _ => none
theorem airOf_cells (a : AirV) : airOf a.cells = some a := rfl
theorem cells_airOf {r : List DV} {a : AirV} (h : airOf r = some a) : r = a.cells := by
  unfold airOf at h
  split at h
  · cases h; rfl
  · cases h
def airsOf : List (List DV) → Option (List AirV)
  | [] => some []
  | r :: rs => match airOf r, airsOf rs with
    | some a, some l => some (a :: l)
    | _, _ => none
theorem airsOf_map : ∀ (l : List AirV), airsOf (l.map AirV.cells) = some l
  | [] => rfl
  | a :: l => by simp only [List.map_cons, airsOf, airOf_cells, airsOf_map l]
theorem map_airsOf : ∀ {rs : List (List DV)} {l : List AirV}, airsOf rs = some l → rs = l.map AirV.cells
  | [], l, h => by simp only [airsOf] at h; cases h; rfl
  | r :: rs, l, h => by
    simp only [airsOf] at h
    split at h
    · rename_i a l' h1 h2
      cases h
      rw [List.map_cons, cells_airOf h1, map_airsOf h2]
    · cases h
/-- The things that a slice holds. -/
def thingsOf (H : DH) : DV → Option (List AirV)
  | .sl none 0 0 true => some []
  | .sl (some (loc, i, 8)) n _ _ => match H.obj loc with
    | some (.rows _ 8 rs) => match airsOf ((rs.drop i).take n) with
      | some l => if l.length = n ∧ n ≤ maxLen then some l else none
      | none => none
    | _ => none
  | _ => none
/-- A slice of things is nil, or lies somewhere. -/
theorem things_cases {H : DH} {s : DV} {l : List AirV} (h : thingsOf H s = some l) : (s = .sl none 0 0 true ∧ l = []) ∨ ∃ loc i c ex, s = .sl (some (loc, i, 8)) l.length c ex ∧ Lies H loc i l ∧ l.length ≤ maxLen := by
  unfold thingsOf at h
  split at h
  · cases h; exact .inl ⟨rfl, rfl⟩
  · rename_i loc i n c ex
    split at h
    · rename_i ro rs ho
      split at h
      · rename_i l' hl
        split at h
        · rename_i hn
          cases h
          refine .inr ⟨loc, i, c, ex, by rw [hn.1], ⟨ro, rs, ho, fun k a hk => ?_⟩, by rw [hn.1]; exact hn.2⟩
          have hm := map_airsOf hl
          have h1 : (l.map AirV.cells)[k]? = some a.cells := by rw [List.getElem?_map, hk]; rfl
          rw [← hm, List.getElem?_take] at h1
          split at h1
          · rw [List.getElem?_drop] at h1; exact h1
          · cases h1
        · cases h
      · cases h
    · cases h
  · cases h
def gCheck : G := fun args H => match args with
  | [s] => match thingsOf H s with
    | some l => some (.int .i64 (checkI l), H)
    | none => none
  | _ => none
theorem nil_contains (H : DH) (K : DV → DH → Prop) (h : K (.bool false) H) : CallWp Try.prog X2 51 [.sl none 0 0 true, .func (.func 48) [] []] H K := by
  refine enter rfl Try.func51 rfl Try.ntmps51 rfl ?_
  dsimp only [List.cons_append, List.nil_append, List.length_cons, List.length_nil, List.replicate_succ, List.replicate_zero, Nat.reduceAdd, Nat.reduceSub]
  repeat' (first
    | refine dwp_seq ?_
    | refine dwp_region ?_
    | refine ops_nil ?_
    | refine dwp_round ?_
    | (refine ops_plain rfl ?_; (first | (refine op_call rfl rfl rfl ?_; refine enter rfl Try.func64 rfl Try.ntmps64 rfl ?_; dsimp only [List.cons_append, List.nil_append, List.length_cons, List.length_nil, List.replicate_succ, List.replicate_zero, Nat.reduceAdd, Nat.reduceSub]) | refine op_pick_t rfl rfl (by first | with_reducible assumption | with_reducible rfl | decide) rfl ?_ | refine op_pick_f rfl rfl (by first | with_reducible assumption | with_reducible rfl | decide) rfl ?_ | refine op_at (opD_load rfl rfl (by repeat (first | with_reducible assumption | (with_reducible refine obj_here ?_; rfl) | with_reducible exact obj_set | (with_reducible refine obj_skip ?_ ?_; · ((try simp only [DH.new_next, DH.set_next]); omega)) | (with_reducible refine obj_past ?_ ?_; · ((try simp only [DH.new_next, DH.set_next]); omega)) | exact obj_here rfl | exact obj_set)) rfl rfl) ?_ | refine op_at (opD_store rfl rfl rfl rfl rfl (by repeat (first | with_reducible assumption | (with_reducible refine obj_here ?_; rfl) | with_reducible exact obj_set | (with_reducible refine obj_skip ?_ ?_; · ((try simp only [DH.new_next, DH.set_next]); omega)) | (with_reducible refine obj_past ?_ ?_; · ((try simp only [DH.new_next, DH.set_next]); omega)) | exact obj_here rfl | exact obj_set)) rfl) ?_ | refine op_at (opD_eqb rfl rfl rfl rfl) ?_ | refine op_at (opD_neqb rfl rfl rfl rfl) ?_ | refine op_at rfl ?_); (all_goals try dsimp only [putD, DV.cells, DH.new_next, DH.set_next, List.length_cons, List.length_nil, Nat.reduceAdd, List.set_cons_zero, List.set_cons_succ, getD_zero, getD_succ, fieldAt_zero, fieldAt_succ, thenD, blockD, retR]))
    | (refine ops_on rfl rfl (by first | with_reducible assumption | with_reducible rfl | decide) ?_; (first | (refine op_call rfl rfl rfl ?_; refine enter rfl Try.func64 rfl Try.ntmps64 rfl ?_; dsimp only [List.cons_append, List.nil_append, List.length_cons, List.length_nil, List.replicate_succ, List.replicate_zero, Nat.reduceAdd, Nat.reduceSub]) | refine op_pick_t rfl rfl (by first | with_reducible assumption | with_reducible rfl | decide) rfl ?_ | refine op_pick_f rfl rfl (by first | with_reducible assumption | with_reducible rfl | decide) rfl ?_ | refine op_at (opD_load rfl rfl (by repeat (first | with_reducible assumption | (with_reducible refine obj_here ?_; rfl) | with_reducible exact obj_set | (with_reducible refine obj_skip ?_ ?_; · ((try simp only [DH.new_next, DH.set_next]); omega)) | (with_reducible refine obj_past ?_ ?_; · ((try simp only [DH.new_next, DH.set_next]); omega)) | exact obj_here rfl | exact obj_set)) rfl rfl) ?_ | refine op_at (opD_store rfl rfl rfl rfl rfl (by repeat (first | with_reducible assumption | (with_reducible refine obj_here ?_; rfl) | with_reducible exact obj_set | (with_reducible refine obj_skip ?_ ?_; · ((try simp only [DH.new_next, DH.set_next]); omega)) | (with_reducible refine obj_past ?_ ?_; · ((try simp only [DH.new_next, DH.set_next]); omega)) | exact obj_here rfl | exact obj_set)) rfl) ?_ | refine op_at (opD_eqb rfl rfl rfl rfl) ?_ | refine op_at (opD_neqb rfl rfl rfl rfl) ?_ | refine op_at rfl ?_); (all_goals try dsimp only [putD, DV.cells, DH.new_next, DH.set_next, List.length_cons, List.length_nil, Nat.reduceAdd, List.set_cons_zero, List.set_cons_succ, getD_zero, getD_succ, fieldAt_zero, fieldAt_succ, thenD, blockD, retR]))
    | (refine ops_off1 rfl rfl (by first | with_reducible assumption | with_reducible rfl | decide) ?_; (all_goals try dsimp only [putD, DV.cells, DH.new_next, DH.set_next, List.length_cons, List.length_nil, Nat.reduceAdd, List.set_cons_zero, List.set_cons_succ, getD_zero, getD_succ, fieldAt_zero, fieldAt_succ, thenD, blockD, retR]))
    | (refine ops_off0 rfl rfl (by first | with_reducible assumption | with_reducible rfl | decide) ?_; (all_goals try dsimp only [putD, DV.cells, DH.new_next, DH.set_next, List.length_cons, List.length_nil, Nat.reduceAdd, List.set_cons_zero, List.set_cons_succ, getD_zero, getD_succ, fieldAt_zero, fieldAt_succ, thenD, blockD, retR]))
    | (refine ops_offn rfl rfl ?_; (all_goals try dsimp only [putD, DV.cells, DH.new_next, DH.set_next, List.length_cons, List.length_nil, Nat.reduceAdd, List.set_cons_zero, List.set_cons_succ, getD_zero, getD_succ, fieldAt_zero, fieldAt_succ, thenD, blockD, retR]))
    | (refine ops_split1 rfl rfl ?_ ?_ <;> intro hb)
    | (refine ops_split0 rfl rfl ?_ ?_ <;> intro hb)
    | ((first | (refine op_call rfl rfl rfl ?_; refine enter rfl Try.func64 rfl Try.ntmps64 rfl ?_; dsimp only [List.cons_append, List.nil_append, List.length_cons, List.length_nil, List.replicate_succ, List.replicate_zero, Nat.reduceAdd, Nat.reduceSub]) | refine op_pick_t rfl rfl (by first | with_reducible assumption | with_reducible rfl | decide) rfl ?_ | refine op_pick_f rfl rfl (by first | with_reducible assumption | with_reducible rfl | decide) rfl ?_ | refine op_at (opD_load rfl rfl (by repeat (first | with_reducible assumption | (with_reducible refine obj_here ?_; rfl) | with_reducible exact obj_set | (with_reducible refine obj_skip ?_ ?_; · ((try simp only [DH.new_next, DH.set_next]); omega)) | (with_reducible refine obj_past ?_ ?_; · ((try simp only [DH.new_next, DH.set_next]); omega)) | exact obj_here rfl | exact obj_set)) rfl rfl) ?_ | refine op_at (opD_store rfl rfl rfl rfl rfl (by repeat (first | with_reducible assumption | (with_reducible refine obj_here ?_; rfl) | with_reducible exact obj_set | (with_reducible refine obj_skip ?_ ?_; · ((try simp only [DH.new_next, DH.set_next]); omega)) | (with_reducible refine obj_past ?_ ?_; · ((try simp only [DH.new_next, DH.set_next]); omega)) | exact obj_here rfl | exact obj_set)) rfl) ?_ | refine op_at (opD_eqb rfl rfl rfl rfl) ?_ | refine op_at (opD_neqb rfl rfl rfl rfl) ?_ | refine op_at rfl ?_); (all_goals try dsimp only [putD, DV.cells, DH.new_next, DH.set_next, List.length_cons, List.length_nil, Nat.reduceAdd, List.set_cons_zero, List.set_cons_succ, getD_zero, getD_succ, fieldAt_zero, fieldAt_succ, thenD, blockD, retR]))
    | refine dwp_cond_t rfl (by first | with_reducible assumption | with_reducible rfl | decide) ?_
    | refine dwp_cond_f rfl (by first | with_reducible assumption | with_reducible rfl | decide) ?_
    | (refine dwp_cond rfl ?_ ?_ <;> intro hb)
    | refine dwp_block ?_
    | refine dwp_skip ?_
    | refine dwp_ret ?_
    | refine dwp_exit ?_
    | dsimp only [thenD, blockD, retR]
    | (refine ⟨_, rfl, ?_⟩; try dsimp only)
    | fail)
  all_goals exact h
theorem nil_check (H : DH) : CallWp Try.prog X2 19 [.sl none 0 0 true] H (fun r H' => r = .int .i64 0 ∧ H' = H) := by
  refine enter rfl Try.func19 rfl Try.ntmps19 rfl ?_
  dsimp only [List.cons_append, List.nil_append, List.length_cons, List.length_nil, List.replicate_succ, List.replicate_zero, Nat.reduceAdd, Nat.reduceSub]
  repeat' (first
    | refine dwp_seq ?_
    | refine dwp_region ?_
    | refine ops_nil ?_
    | refine dwp_round ?_
    | (refine ops_plain rfl ?_; (first | (refine op_call rfl rfl rfl ?_; refine nil_contains _ _ ?_) | refine op_pick_t rfl rfl (by first | with_reducible assumption | with_reducible rfl | decide) rfl ?_ | refine op_pick_f rfl rfl (by first | with_reducible assumption | with_reducible rfl | decide) rfl ?_ | refine op_at (opD_load rfl rfl (by repeat (first | with_reducible assumption | (with_reducible refine obj_here ?_; rfl) | with_reducible exact obj_set | (with_reducible refine obj_skip ?_ ?_; · ((try simp only [DH.new_next, DH.set_next]); omega)) | (with_reducible refine obj_past ?_ ?_; · ((try simp only [DH.new_next, DH.set_next]); omega)) | exact obj_here rfl | exact obj_set)) rfl rfl) ?_ | refine op_at (opD_store rfl rfl rfl rfl rfl (by repeat (first | with_reducible assumption | (with_reducible refine obj_here ?_; rfl) | with_reducible exact obj_set | (with_reducible refine obj_skip ?_ ?_; · ((try simp only [DH.new_next, DH.set_next]); omega)) | (with_reducible refine obj_past ?_ ?_; · ((try simp only [DH.new_next, DH.set_next]); omega)) | exact obj_here rfl | exact obj_set)) rfl) ?_ | refine op_at (opD_eqb rfl rfl rfl rfl) ?_ | refine op_at (opD_neqb rfl rfl rfl rfl) ?_ | refine op_at rfl ?_); (all_goals try dsimp only [putD, DV.cells, DH.new_next, DH.set_next, List.length_cons, List.length_nil, Nat.reduceAdd, List.set_cons_zero, List.set_cons_succ, getD_zero, getD_succ, fieldAt_zero, fieldAt_succ, thenD, blockD, retR]))
    | (refine ops_on rfl rfl (by first | with_reducible assumption | with_reducible rfl | decide) ?_; (first | (refine op_call rfl rfl rfl ?_; refine nil_contains _ _ ?_) | refine op_pick_t rfl rfl (by first | with_reducible assumption | with_reducible rfl | decide) rfl ?_ | refine op_pick_f rfl rfl (by first | with_reducible assumption | with_reducible rfl | decide) rfl ?_ | refine op_at (opD_load rfl rfl (by repeat (first | with_reducible assumption | (with_reducible refine obj_here ?_; rfl) | with_reducible exact obj_set | (with_reducible refine obj_skip ?_ ?_; · ((try simp only [DH.new_next, DH.set_next]); omega)) | (with_reducible refine obj_past ?_ ?_; · ((try simp only [DH.new_next, DH.set_next]); omega)) | exact obj_here rfl | exact obj_set)) rfl rfl) ?_ | refine op_at (opD_store rfl rfl rfl rfl rfl (by repeat (first | with_reducible assumption | (with_reducible refine obj_here ?_; rfl) | with_reducible exact obj_set | (with_reducible refine obj_skip ?_ ?_; · ((try simp only [DH.new_next, DH.set_next]); omega)) | (with_reducible refine obj_past ?_ ?_; · ((try simp only [DH.new_next, DH.set_next]); omega)) | exact obj_here rfl | exact obj_set)) rfl) ?_ | refine op_at (opD_eqb rfl rfl rfl rfl) ?_ | refine op_at (opD_neqb rfl rfl rfl rfl) ?_ | refine op_at rfl ?_); (all_goals try dsimp only [putD, DV.cells, DH.new_next, DH.set_next, List.length_cons, List.length_nil, Nat.reduceAdd, List.set_cons_zero, List.set_cons_succ, getD_zero, getD_succ, fieldAt_zero, fieldAt_succ, thenD, blockD, retR]))
    | (refine ops_off1 rfl rfl (by first | with_reducible assumption | with_reducible rfl | decide) ?_; (all_goals try dsimp only [putD, DV.cells, DH.new_next, DH.set_next, List.length_cons, List.length_nil, Nat.reduceAdd, List.set_cons_zero, List.set_cons_succ, getD_zero, getD_succ, fieldAt_zero, fieldAt_succ, thenD, blockD, retR]))
    | (refine ops_off0 rfl rfl (by first | with_reducible assumption | with_reducible rfl | decide) ?_; (all_goals try dsimp only [putD, DV.cells, DH.new_next, DH.set_next, List.length_cons, List.length_nil, Nat.reduceAdd, List.set_cons_zero, List.set_cons_succ, getD_zero, getD_succ, fieldAt_zero, fieldAt_succ, thenD, blockD, retR]))
    | (refine ops_offn rfl rfl ?_; (all_goals try dsimp only [putD, DV.cells, DH.new_next, DH.set_next, List.length_cons, List.length_nil, Nat.reduceAdd, List.set_cons_zero, List.set_cons_succ, getD_zero, getD_succ, fieldAt_zero, fieldAt_succ, thenD, blockD, retR]))
    | (refine ops_split1 rfl rfl ?_ ?_ <;> intro hb)
    | (refine ops_split0 rfl rfl ?_ ?_ <;> intro hb)
    | ((first | (refine op_call rfl rfl rfl ?_; refine nil_contains _ _ ?_) | refine op_pick_t rfl rfl (by first | with_reducible assumption | with_reducible rfl | decide) rfl ?_ | refine op_pick_f rfl rfl (by first | with_reducible assumption | with_reducible rfl | decide) rfl ?_ | refine op_at (opD_load rfl rfl (by repeat (first | with_reducible assumption | (with_reducible refine obj_here ?_; rfl) | with_reducible exact obj_set | (with_reducible refine obj_skip ?_ ?_; · ((try simp only [DH.new_next, DH.set_next]); omega)) | (with_reducible refine obj_past ?_ ?_; · ((try simp only [DH.new_next, DH.set_next]); omega)) | exact obj_here rfl | exact obj_set)) rfl rfl) ?_ | refine op_at (opD_store rfl rfl rfl rfl rfl (by repeat (first | with_reducible assumption | (with_reducible refine obj_here ?_; rfl) | with_reducible exact obj_set | (with_reducible refine obj_skip ?_ ?_; · ((try simp only [DH.new_next, DH.set_next]); omega)) | (with_reducible refine obj_past ?_ ?_; · ((try simp only [DH.new_next, DH.set_next]); omega)) | exact obj_here rfl | exact obj_set)) rfl) ?_ | refine op_at (opD_eqb rfl rfl rfl rfl) ?_ | refine op_at (opD_neqb rfl rfl rfl rfl) ?_ | refine op_at rfl ?_); (all_goals try dsimp only [putD, DV.cells, DH.new_next, DH.set_next, List.length_cons, List.length_nil, Nat.reduceAdd, List.set_cons_zero, List.set_cons_succ, getD_zero, getD_succ, fieldAt_zero, fieldAt_succ, thenD, blockD, retR]))
    | refine dwp_cond_t rfl (by first | with_reducible assumption | with_reducible rfl | decide) ?_
    | refine dwp_cond_f rfl (by first | with_reducible assumption | with_reducible rfl | decide) ?_
    | (refine dwp_cond rfl ?_ ?_ <;> intro hb)
    | refine dwp_block ?_
    | refine dwp_skip ?_
    | refine dwp_ret ?_
    | refine dwp_exit ?_
    | dsimp only [thenD, blockD, retR]
    | (refine ⟨_, rfl, ?_⟩; try dsimp only)
    | fail)
  all_goals exact ⟨rfl, rfl⟩
theorem check_ok : ExtSound Try.prog gCheck 19 := ext_read ok2 Try.func19 rfl rfl (by
  intro args H r H' hw h
  unfold gCheck at h
  split at h
  · split at h
    · rename_i l hl
      cases h
      refine ⟨rfl, rfl, ?_⟩
      rcases things_cases hl with ⟨rfl, rfl⟩ | ⟨loc, i, c, ex, rfl, h1, h2⟩
      · exact (nil_check H).mono fun r' H1 ⟨h1, h2⟩ => ⟨h1, h2 ▸ Above.refl H⟩
      · exact (check19 H loc i c ex l h1 h2).mono fun r' H1 ⟨h1, h2⟩ => ⟨h1, h2 ▸ Above.refl H⟩
    · cases h
  · cases h)
end Go.Det.M11

/- Are things few enough to be played. -/
namespace Go.Det.M11
open Go Go.Det Go.Proofs
set_option maxRecDepth 4000
set_option maxHeartbeats 4000000
set_option linter.unusedVariables false
set_option linter.unusedSimpArgs false
def fewB (l : List AirV) : Bool := l.all (fun a => decide (a.n ≤ 200)) && decide (l.length ≤ 300)
theorem few16 (H : DH) (hw : WF H) (loc i c : Nat) (ex : Bool) (l : List AirV) (hl : Lies H loc i l) (hlen : l.length ≤ maxLen) :
    CallWp Try.prog X2 16 [.sl (some (loc, i, 8)) l.length c ex] H (fun r H' => r = .bool (fewB l) ∧ Above H H') := by
  obtain ⟨ro, rs, ho, hrow⟩ := hl
  have hloc := hw _ _ ho
  refine enter rfl Try.func16 rfl Try.ntmps16 rfl ?_
  dsimp only [List.cons_append, List.nil_append, List.length_cons, List.length_nil, List.replicate_succ, List.replicate_zero, Nat.reduceAdd, Nat.reduceSub]
  repeat' (first
    | refine dwp_seq ?_
    | refine dwp_region ?_
    | refine ops_nil ?_
    | (refine ops_plain rfl ?_; (first | refine op_pick_t rfl rfl (by first | with_reducible assumption | with_reducible rfl | decide) rfl ?_ | refine op_pick_f rfl rfl (by first | with_reducible assumption | with_reducible rfl | decide) rfl ?_ | refine op_at (opD_load rfl rfl (by repeat (first | with_reducible assumption | (with_reducible refine obj_here ?_; rfl) | with_reducible exact obj_set | (with_reducible refine obj_skip ?_ ?_; · ((try simp only [DH.new_next, DH.set_next]); omega)) | (with_reducible refine obj_past ?_ ?_; · ((try simp only [DH.new_next, DH.set_next]); omega)) | exact obj_here rfl | exact obj_set)) rfl rfl) ?_ | refine op_at (opD_store rfl rfl rfl rfl rfl (by repeat (first | with_reducible assumption | (with_reducible refine obj_here ?_; rfl) | with_reducible exact obj_set | (with_reducible refine obj_skip ?_ ?_; · ((try simp only [DH.new_next, DH.set_next]); omega)) | (with_reducible refine obj_past ?_ ?_; · ((try simp only [DH.new_next, DH.set_next]); omega)) | exact obj_here rfl | exact obj_set)) rfl) ?_ | refine op_at (opD_eqb rfl rfl rfl rfl) ?_ | refine op_at (opD_neqb rfl rfl rfl rfl) ?_ | refine op_at rfl ?_); (all_goals try dsimp only [putD, DV.cells, DH.new_next, DH.set_next, List.length_cons, List.length_nil, Nat.reduceAdd, List.set_cons_zero, List.set_cons_succ, getD_zero, getD_succ, fieldAt_zero, fieldAt_succ, thenD, blockD, retR]))
    | (refine ops_on rfl rfl (by first | with_reducible assumption | with_reducible rfl | decide) ?_; (first | refine op_pick_t rfl rfl (by first | with_reducible assumption | with_reducible rfl | decide) rfl ?_ | refine op_pick_f rfl rfl (by first | with_reducible assumption | with_reducible rfl | decide) rfl ?_ | refine op_at (opD_load rfl rfl (by repeat (first | with_reducible assumption | (with_reducible refine obj_here ?_; rfl) | with_reducible exact obj_set | (with_reducible refine obj_skip ?_ ?_; · ((try simp only [DH.new_next, DH.set_next]); omega)) | (with_reducible refine obj_past ?_ ?_; · ((try simp only [DH.new_next, DH.set_next]); omega)) | exact obj_here rfl | exact obj_set)) rfl rfl) ?_ | refine op_at (opD_store rfl rfl rfl rfl rfl (by repeat (first | with_reducible assumption | (with_reducible refine obj_here ?_; rfl) | with_reducible exact obj_set | (with_reducible refine obj_skip ?_ ?_; · ((try simp only [DH.new_next, DH.set_next]); omega)) | (with_reducible refine obj_past ?_ ?_; · ((try simp only [DH.new_next, DH.set_next]); omega)) | exact obj_here rfl | exact obj_set)) rfl) ?_ | refine op_at (opD_eqb rfl rfl rfl rfl) ?_ | refine op_at (opD_neqb rfl rfl rfl rfl) ?_ | refine op_at rfl ?_); (all_goals try dsimp only [putD, DV.cells, DH.new_next, DH.set_next, List.length_cons, List.length_nil, Nat.reduceAdd, List.set_cons_zero, List.set_cons_succ, getD_zero, getD_succ, fieldAt_zero, fieldAt_succ, thenD, blockD, retR]))
    | (refine ops_off1 rfl rfl (by first | with_reducible assumption | with_reducible rfl | decide) ?_; (all_goals try dsimp only [putD, DV.cells, DH.new_next, DH.set_next, List.length_cons, List.length_nil, Nat.reduceAdd, List.set_cons_zero, List.set_cons_succ, getD_zero, getD_succ, fieldAt_zero, fieldAt_succ, thenD, blockD, retR]))
    | (refine ops_off0 rfl rfl (by first | with_reducible assumption | with_reducible rfl | decide) ?_; (all_goals try dsimp only [putD, DV.cells, DH.new_next, DH.set_next, List.length_cons, List.length_nil, Nat.reduceAdd, List.set_cons_zero, List.set_cons_succ, getD_zero, getD_succ, fieldAt_zero, fieldAt_succ, thenD, blockD, retR]))
    | (refine ops_offn rfl rfl ?_; (all_goals try dsimp only [putD, DV.cells, DH.new_next, DH.set_next, List.length_cons, List.length_nil, Nat.reduceAdd, List.set_cons_zero, List.set_cons_succ, getD_zero, getD_succ, fieldAt_zero, fieldAt_succ, thenD, blockD, retR]))
    | (refine ops_split1 rfl rfl ?_ ?_ <;> intro hb)
    | (refine ops_split0 rfl rfl ?_ ?_ <;> intro hb)
    | ((first | refine op_pick_t rfl rfl (by first | with_reducible assumption | with_reducible rfl | decide) rfl ?_ | refine op_pick_f rfl rfl (by first | with_reducible assumption | with_reducible rfl | decide) rfl ?_ | refine op_at (opD_load rfl rfl (by repeat (first | with_reducible assumption | (with_reducible refine obj_here ?_; rfl) | with_reducible exact obj_set | (with_reducible refine obj_skip ?_ ?_; · ((try simp only [DH.new_next, DH.set_next]); omega)) | (with_reducible refine obj_past ?_ ?_; · ((try simp only [DH.new_next, DH.set_next]); omega)) | exact obj_here rfl | exact obj_set)) rfl rfl) ?_ | refine op_at (opD_store rfl rfl rfl rfl rfl (by repeat (first | with_reducible assumption | (with_reducible refine obj_here ?_; rfl) | with_reducible exact obj_set | (with_reducible refine obj_skip ?_ ?_; · ((try simp only [DH.new_next, DH.set_next]); omega)) | (with_reducible refine obj_past ?_ ?_; · ((try simp only [DH.new_next, DH.set_next]); omega)) | exact obj_here rfl | exact obj_set)) rfl) ?_ | refine op_at (opD_eqb rfl rfl rfl rfl) ?_ | refine op_at (opD_neqb rfl rfl rfl rfl) ?_ | refine op_at rfl ?_); (all_goals try dsimp only [putD, DV.cells, DH.new_next, DH.set_next, List.length_cons, List.length_nil, Nat.reduceAdd, List.set_cons_zero, List.set_cons_succ, getD_zero, getD_succ, fieldAt_zero, fieldAt_succ, thenD, blockD, retR]))
    | refine dwp_cond_t rfl (by first | with_reducible assumption | with_reducible rfl | decide) ?_
    | refine dwp_cond_f rfl (by first | with_reducible assumption | with_reducible rfl | decide) ?_
    | (refine dwp_cond rfl ?_ ?_ <;> intro hb)
    | refine dwp_block ?_
    | refine dwp_skip ?_
    | refine dwp_ret ?_
    | refine dwp_exit ?_
    | dsimp only [thenD, blockD, retR]
    | (refine ⟨_, rfl, ?_⟩; try dsimp only)
    | fail)
  refine dwp_loop (fun st => ∃ (Hk : DH) (k : Nat) (x4 x8 x9 x10 x11 x12 x13 x14 x15 x16 x17 x18 : DV), Above H Hk ∧ k ≤ l.length ∧ (∀ (j : Nat) (a : AirV), j < k → l[j]? = some a → a.n ≤ 200) ∧ st = ⟨[.sl (some (loc, i, 8)) l.length c ex, undefD, .bool false, undefD, x4, .sl (some (loc, i, 8)) l.length c ex, .int .i64 l.length, .int .i64 k, x8, x9, x10, x11, x12, x13, x14, x15, x16, x17, x18], Hk⟩) (fun st => l.length - kOf st 7) ⟨H, 0, undefD, undefD, undefD, undefD, undefD, undefD, undefD, undefD, undefD, undefD, undefD, undefD, Above.refl H, Nat.zero_le _, fun j a h => absurd h (Nat.not_lt_zero _), rfl⟩ ?_
  rintro st ⟨Hk, k, x4, x8, x9, x10, x11, x12, x13, x14, x15, x16, x17, x18, hab, hk, hbefore, rfl⟩
  have hok := hab.obj hloc ho
  by_cases hlt : k < l.length
  · obtain ⟨a, ha⟩ : ∃ a, l[k]? = some a := ⟨l[k], List.getElem?_eq_getElem hlt⟩
    have hrk : rs[i + ((k : Int)).toNat]? = some a.cells := by rw [Int.toNat_natCast]; exact hrow k a ha
    have hc : decide ((k : Int) < (l.length : Int)) = true := by simp [hlt]
    have hin : 0 ≤ (k : Int) ∧ (k : Int) < (l.length : Int) := by omega
    repeat' (first
      | refine dwp_seq ?_
      | refine dwp_region ?_
      | refine ops_nil ?_
      | (refine ops_plain rfl ?_; (first | refine op_pick_t rfl rfl (by first | with_reducible assumption | with_reducible rfl | decide) rfl ?_ | refine op_pick_f rfl rfl (by first | with_reducible assumption | with_reducible rfl | decide) rfl ?_ | refine op_at (opD_index rfl rfl rfl rfl rfl hin) ?_ | refine op_at (opD_load rfl rfl hok hrk (air_part a)) ?_ | refine op_at (opD_load rfl rfl (by repeat (first | with_reducible assumption | (with_reducible refine obj_here ?_; rfl) | with_reducible exact obj_set | (with_reducible refine obj_skip ?_ ?_; · ((try simp only [DH.new_next, DH.set_next]); omega)) | (with_reducible refine obj_past ?_ ?_; · ((try simp only [DH.new_next, DH.set_next]); omega)) | exact obj_here rfl | exact obj_set)) rfl rfl) ?_ | refine op_at (opD_store rfl rfl rfl rfl rfl (by repeat (first | with_reducible assumption | (with_reducible refine obj_here ?_; rfl) | with_reducible exact obj_set | (with_reducible refine obj_skip ?_ ?_; · ((try simp only [DH.new_next, DH.set_next]); omega)) | (with_reducible refine obj_past ?_ ?_; · ((try simp only [DH.new_next, DH.set_next]); omega)) | exact obj_here rfl | exact obj_set)) rfl) ?_ | refine op_at (opD_eqb rfl rfl rfl rfl) ?_ | refine op_at (opD_neqb rfl rfl rfl rfl) ?_ | refine op_at rfl ?_); (all_goals try dsimp only [putD, DV.cells, DH.new_next, DH.set_next, List.length_cons, List.length_nil, Nat.reduceAdd, List.set_cons_zero, List.set_cons_succ, getD_zero, getD_succ, fieldAt_zero, fieldAt_succ, thenD, blockD, retR]))
      | (refine ops_on rfl rfl (by first | with_reducible assumption | with_reducible rfl | decide) ?_; (first | refine op_pick_t rfl rfl (by first | with_reducible assumption | with_reducible rfl | decide) rfl ?_ | refine op_pick_f rfl rfl (by first | with_reducible assumption | with_reducible rfl | decide) rfl ?_ | refine op_at (opD_index rfl rfl rfl rfl rfl hin) ?_ | refine op_at (opD_load rfl rfl hok hrk (air_part a)) ?_ | refine op_at (opD_load rfl rfl (by repeat (first | with_reducible assumption | (with_reducible refine obj_here ?_; rfl) | with_reducible exact obj_set | (with_reducible refine obj_skip ?_ ?_; · ((try simp only [DH.new_next, DH.set_next]); omega)) | (with_reducible refine obj_past ?_ ?_; · ((try simp only [DH.new_next, DH.set_next]); omega)) | exact obj_here rfl | exact obj_set)) rfl rfl) ?_ | refine op_at (opD_store rfl rfl rfl rfl rfl (by repeat (first | with_reducible assumption | (with_reducible refine obj_here ?_; rfl) | with_reducible exact obj_set | (with_reducible refine obj_skip ?_ ?_; · ((try simp only [DH.new_next, DH.set_next]); omega)) | (with_reducible refine obj_past ?_ ?_; · ((try simp only [DH.new_next, DH.set_next]); omega)) | exact obj_here rfl | exact obj_set)) rfl) ?_ | refine op_at (opD_eqb rfl rfl rfl rfl) ?_ | refine op_at (opD_neqb rfl rfl rfl rfl) ?_ | refine op_at rfl ?_); (all_goals try dsimp only [putD, DV.cells, DH.new_next, DH.set_next, List.length_cons, List.length_nil, Nat.reduceAdd, List.set_cons_zero, List.set_cons_succ, getD_zero, getD_succ, fieldAt_zero, fieldAt_succ, thenD, blockD, retR]))
      | (refine ops_off1 rfl rfl (by first | with_reducible assumption | with_reducible rfl | decide) ?_; (all_goals try dsimp only [putD, DV.cells, DH.new_next, DH.set_next, List.length_cons, List.length_nil, Nat.reduceAdd, List.set_cons_zero, List.set_cons_succ, getD_zero, getD_succ, fieldAt_zero, fieldAt_succ, thenD, blockD, retR]))
      | (refine ops_off0 rfl rfl (by first | with_reducible assumption | with_reducible rfl | decide) ?_; (all_goals try dsimp only [putD, DV.cells, DH.new_next, DH.set_next, List.length_cons, List.length_nil, Nat.reduceAdd, List.set_cons_zero, List.set_cons_succ, getD_zero, getD_succ, fieldAt_zero, fieldAt_succ, thenD, blockD, retR]))
      | (refine ops_offn rfl rfl ?_; (all_goals try dsimp only [putD, DV.cells, DH.new_next, DH.set_next, List.length_cons, List.length_nil, Nat.reduceAdd, List.set_cons_zero, List.set_cons_succ, getD_zero, getD_succ, fieldAt_zero, fieldAt_succ, thenD, blockD, retR]))
      | (refine ops_split1 rfl rfl ?_ ?_ <;> intro hb)
      | (refine ops_split0 rfl rfl ?_ ?_ <;> intro hb)
      | ((first | refine op_pick_t rfl rfl (by first | with_reducible assumption | with_reducible rfl | decide) rfl ?_ | refine op_pick_f rfl rfl (by first | with_reducible assumption | with_reducible rfl | decide) rfl ?_ | refine op_at (opD_index rfl rfl rfl rfl rfl hin) ?_ | refine op_at (opD_load rfl rfl hok hrk (air_part a)) ?_ | refine op_at (opD_load rfl rfl (by repeat (first | with_reducible assumption | (with_reducible refine obj_here ?_; rfl) | with_reducible exact obj_set | (with_reducible refine obj_skip ?_ ?_; · ((try simp only [DH.new_next, DH.set_next]); omega)) | (with_reducible refine obj_past ?_ ?_; · ((try simp only [DH.new_next, DH.set_next]); omega)) | exact obj_here rfl | exact obj_set)) rfl rfl) ?_ | refine op_at (opD_store rfl rfl rfl rfl rfl (by repeat (first | with_reducible assumption | (with_reducible refine obj_here ?_; rfl) | with_reducible exact obj_set | (with_reducible refine obj_skip ?_ ?_; · ((try simp only [DH.new_next, DH.set_next]); omega)) | (with_reducible refine obj_past ?_ ?_; · ((try simp only [DH.new_next, DH.set_next]); omega)) | exact obj_here rfl | exact obj_set)) rfl) ?_ | refine op_at (opD_eqb rfl rfl rfl rfl) ?_ | refine op_at (opD_neqb rfl rfl rfl rfl) ?_ | refine op_at rfl ?_); (all_goals try dsimp only [putD, DV.cells, DH.new_next, DH.set_next, List.length_cons, List.length_nil, Nat.reduceAdd, List.set_cons_zero, List.set_cons_succ, getD_zero, getD_succ, fieldAt_zero, fieldAt_succ, thenD, blockD, retR]))
      | refine dwp_cond_t rfl (by first | with_reducible assumption | with_reducible rfl | decide) ?_
      | refine dwp_cond_f rfl (by first | with_reducible assumption | with_reducible rfl | decide) ?_
      | (refine dwp_cond rfl ?_ ?_ <;> intro hb)
      | refine dwp_block ?_
      | refine dwp_skip ?_
      | refine dwp_ret ?_
      | refine dwp_exit ?_
      | dsimp only [thenD, blockD, retR]
      | (refine ⟨_, rfl, ?_⟩; try dsimp only)
      | fail)
    · refine ⟨?_, (hab.new _).set hab.le _⟩
      have : fewB l = false := by
        unfold fewB
        have h1 : l.all (fun a => decide (a.n ≤ 200)) = false := by
          rw [List.all_eq_false]
          refine ⟨a, List.mem_of_getElem? ha, ?_⟩
          simp only [decide_eq_true_eq] at hb ⊢
          omega
        rw [h1]; rfl
      rw [this]
      rfl
    · have hw' := wrapNat (k := k) (by unfold maxLen at hlen; omega)
      rw [hw']
      refine ⟨⟨_, k + 1, _, _, _, _, _, _, _, _, _, _, _, _, (hab.new _).set hab.le _, by omega, fun j b hj hjb => ?_, rfl⟩, ?_⟩
      · rcases Nat.lt_succ_iff_lt_or_eq.mp hj with h | rfl
        · exact hbefore j b h hjb
        · rw [ha] at hjb; cases hjb
          simp only [decide_eq_false_iff_not] at hb
          omega
      · show l.length - ((k + 1 : Nat) : Int).toNat < l.length - (k : Int).toNat
        omega
  · have hc : decide ((k : Int) < (l.length : Int)) = false := by simp; omega
    repeat' (first
      | refine dwp_seq ?_
      | refine dwp_region ?_
      | refine ops_nil ?_
      | (refine ops_plain rfl ?_; (first | refine op_pick_t rfl rfl (by first | with_reducible assumption | with_reducible rfl | decide) rfl ?_ | refine op_pick_f rfl rfl (by first | with_reducible assumption | with_reducible rfl | decide) rfl ?_ | refine op_at (opD_load rfl rfl (by repeat (first | with_reducible assumption | (with_reducible refine obj_here ?_; rfl) | with_reducible exact obj_set | (with_reducible refine obj_skip ?_ ?_; · ((try simp only [DH.new_next, DH.set_next]); omega)) | (with_reducible refine obj_past ?_ ?_; · ((try simp only [DH.new_next, DH.set_next]); omega)) | exact obj_here rfl | exact obj_set)) rfl rfl) ?_ | refine op_at (opD_store rfl rfl rfl rfl rfl (by repeat (first | with_reducible assumption | (with_reducible refine obj_here ?_; rfl) | with_reducible exact obj_set | (with_reducible refine obj_skip ?_ ?_; · ((try simp only [DH.new_next, DH.set_next]); omega)) | (with_reducible refine obj_past ?_ ?_; · ((try simp only [DH.new_next, DH.set_next]); omega)) | exact obj_here rfl | exact obj_set)) rfl) ?_ | refine op_at (opD_eqb rfl rfl rfl rfl) ?_ | refine op_at (opD_neqb rfl rfl rfl rfl) ?_ | refine op_at rfl ?_); (all_goals try dsimp only [putD, DV.cells, DH.new_next, DH.set_next, List.length_cons, List.length_nil, Nat.reduceAdd, List.set_cons_zero, List.set_cons_succ, getD_zero, getD_succ, fieldAt_zero, fieldAt_succ, thenD, blockD, retR]))
      | (refine ops_on rfl rfl (by first | with_reducible assumption | with_reducible rfl | decide) ?_; (first | refine op_pick_t rfl rfl (by first | with_reducible assumption | with_reducible rfl | decide) rfl ?_ | refine op_pick_f rfl rfl (by first | with_reducible assumption | with_reducible rfl | decide) rfl ?_ | refine op_at (opD_load rfl rfl (by repeat (first | with_reducible assumption | (with_reducible refine obj_here ?_; rfl) | with_reducible exact obj_set | (with_reducible refine obj_skip ?_ ?_; · ((try simp only [DH.new_next, DH.set_next]); omega)) | (with_reducible refine obj_past ?_ ?_; · ((try simp only [DH.new_next, DH.set_next]); omega)) | exact obj_here rfl | exact obj_set)) rfl rfl) ?_ | refine op_at (opD_store rfl rfl rfl rfl rfl (by repeat (first | with_reducible assumption | (with_reducible refine obj_here ?_; rfl) | with_reducible exact obj_set | (with_reducible refine obj_skip ?_ ?_; · ((try simp only [DH.new_next, DH.set_next]); omega)) | (with_reducible refine obj_past ?_ ?_; · ((try simp only [DH.new_next, DH.set_next]); omega)) | exact obj_here rfl | exact obj_set)) rfl) ?_ | refine op_at (opD_eqb rfl rfl rfl rfl) ?_ | refine op_at (opD_neqb rfl rfl rfl rfl) ?_ | refine op_at rfl ?_); (all_goals try dsimp only [putD, DV.cells, DH.new_next, DH.set_next, List.length_cons, List.length_nil, Nat.reduceAdd, List.set_cons_zero, List.set_cons_succ, getD_zero, getD_succ, fieldAt_zero, fieldAt_succ, thenD, blockD, retR]))
      | (refine ops_off1 rfl rfl (by first | with_reducible assumption | with_reducible rfl | decide) ?_; (all_goals try dsimp only [putD, DV.cells, DH.new_next, DH.set_next, List.length_cons, List.length_nil, Nat.reduceAdd, List.set_cons_zero, List.set_cons_succ, getD_zero, getD_succ, fieldAt_zero, fieldAt_succ, thenD, blockD, retR]))
      | (refine ops_off0 rfl rfl (by first | with_reducible assumption | with_reducible rfl | decide) ?_; (all_goals try dsimp only [putD, DV.cells, DH.new_next, DH.set_next, List.length_cons, List.length_nil, Nat.reduceAdd, List.set_cons_zero, List.set_cons_succ, getD_zero, getD_succ, fieldAt_zero, fieldAt_succ, thenD, blockD, retR]))
      | (refine ops_offn rfl rfl ?_; (all_goals try dsimp only [putD, DV.cells, DH.new_next, DH.set_next, List.length_cons, List.length_nil, Nat.reduceAdd, List.set_cons_zero, List.set_cons_succ, getD_zero, getD_succ, fieldAt_zero, fieldAt_succ, thenD, blockD, retR]))
      | (refine ops_split1 rfl rfl ?_ ?_ <;> intro hb)
      | (refine ops_split0 rfl rfl ?_ ?_ <;> intro hb)
      | ((first | refine op_pick_t rfl rfl (by first | with_reducible assumption | with_reducible rfl | decide) rfl ?_ | refine op_pick_f rfl rfl (by first | with_reducible assumption | with_reducible rfl | decide) rfl ?_ | refine op_at (opD_load rfl rfl (by repeat (first | with_reducible assumption | (with_reducible refine obj_here ?_; rfl) | with_reducible exact obj_set | (with_reducible refine obj_skip ?_ ?_; · ((try simp only [DH.new_next, DH.set_next]); omega)) | (with_reducible refine obj_past ?_ ?_; · ((try simp only [DH.new_next, DH.set_next]); omega)) | exact obj_here rfl | exact obj_set)) rfl rfl) ?_ | refine op_at (opD_store rfl rfl rfl rfl rfl (by repeat (first | with_reducible assumption | (with_reducible refine obj_here ?_; rfl) | with_reducible exact obj_set | (with_reducible refine obj_skip ?_ ?_; · ((try simp only [DH.new_next, DH.set_next]); omega)) | (with_reducible refine obj_past ?_ ?_; · ((try simp only [DH.new_next, DH.set_next]); omega)) | exact obj_here rfl | exact obj_set)) rfl) ?_ | refine op_at (opD_eqb rfl rfl rfl rfl) ?_ | refine op_at (opD_neqb rfl rfl rfl rfl) ?_ | refine op_at rfl ?_); (all_goals try dsimp only [putD, DV.cells, DH.new_next, DH.set_next, List.length_cons, List.length_nil, Nat.reduceAdd, List.set_cons_zero, List.set_cons_succ, getD_zero, getD_succ, fieldAt_zero, fieldAt_succ, thenD, blockD, retR]))
      | refine dwp_cond_t rfl (by first | with_reducible assumption | with_reducible rfl | decide) ?_
      | refine dwp_cond_f rfl (by first | with_reducible assumption | with_reducible rfl | decide) ?_
      | (refine dwp_cond rfl ?_ ?_ <;> intro hb)
      | refine dwp_block ?_
      | refine dwp_skip ?_
      | refine dwp_ret ?_
      | refine dwp_exit ?_
      | dsimp only [thenD, blockD, retR]
      | (refine ⟨_, rfl, ?_⟩; try dsimp only)
      | fail)
    refine ⟨?_, hab⟩
    have h1 : l.all (fun a => decide (a.n ≤ 200)) = true := by
      rw [List.all_eq_true]
      intro a ha
      obtain ⟨j, hj, rfl⟩ := List.getElem_of_mem ha
      simpa using hbefore j _ (by omega) (List.getElem?_eq_getElem hj)
    have : fewB l = decide ((l.length : Int) ≤ 300) := by
      unfold fewB
      rw [h1, Bool.true_and]
      exact decide_eq_decide.mpr (by omega)
    rw [this]
    rfl
def gFew : G := fun args H => match args with
  | [s] => match thingsOf H s with
    | some l => some (.bool (fewB l), H)
    | none => none
  | _ => none
theorem nil_few (H : DH) : CallWp Try.prog X2 16 [.sl none 0 0 true] H (fun r H' => r = .bool true ∧ H' = H) := by
  refine enter rfl Try.func16 rfl Try.ntmps16 rfl ?_
  dsimp only [List.cons_append, List.nil_append, List.length_cons, List.length_nil, List.replicate_succ, List.replicate_zero, Nat.reduceAdd, Nat.reduceSub]
  repeat' (first
    | refine dwp_seq ?_
    | refine dwp_region ?_
    | refine ops_nil ?_
    | refine dwp_round ?_
    | (refine ops_plain rfl ?_; (first | refine op_pick_t rfl rfl (by first | with_reducible assumption | with_reducible rfl | decide) rfl ?_ | refine op_pick_f rfl rfl (by first | with_reducible assumption | with_reducible rfl | decide) rfl ?_ | refine op_at (opD_load rfl rfl (by repeat (first | with_reducible assumption | (with_reducible refine obj_here ?_; rfl) | with_reducible exact obj_set | (with_reducible refine obj_skip ?_ ?_; · ((try simp only [DH.new_next, DH.set_next]); omega)) | (with_reducible refine obj_past ?_ ?_; · ((try simp only [DH.new_next, DH.set_next]); omega)) | exact obj_here rfl | exact obj_set)) rfl rfl) ?_ | refine op_at (opD_store rfl rfl rfl rfl rfl (by repeat (first | with_reducible assumption | (with_reducible refine obj_here ?_; rfl) | with_reducible exact obj_set | (with_reducible refine obj_skip ?_ ?_; · ((try simp only [DH.new_next, DH.set_next]); omega)) | (with_reducible refine obj_past ?_ ?_; · ((try simp only [DH.new_next, DH.set_next]); omega)) | exact obj_here rfl | exact obj_set)) rfl) ?_ | refine op_at (opD_eqb rfl rfl rfl rfl) ?_ | refine op_at (opD_neqb rfl rfl rfl rfl) ?_ | refine op_at rfl ?_); (all_goals try dsimp only [putD, DV.cells, DH.new_next, DH.set_next, List.length_cons, List.length_nil, Nat.reduceAdd, List.set_cons_zero, List.set_cons_succ, getD_zero, getD_succ, fieldAt_zero, fieldAt_succ, thenD, blockD, retR]))
    | (refine ops_on rfl rfl (by first | with_reducible assumption | with_reducible rfl | decide) ?_; (first | refine op_pick_t rfl rfl (by first | with_reducible assumption | with_reducible rfl | decide) rfl ?_ | refine op_pick_f rfl rfl (by first | with_reducible assumption | with_reducible rfl | decide) rfl ?_ | refine op_at (opD_load rfl rfl (by repeat (first | with_reducible assumption | (with_reducible refine obj_here ?_; rfl) | with_reducible exact obj_set | (with_reducible refine obj_skip ?_ ?_; · ((try simp only [DH.new_next, DH.set_next]); omega)) | (with_reducible refine obj_past ?_ ?_; · ((try simp only [DH.new_next, DH.set_next]); omega)) | exact obj_here rfl | exact obj_set)) rfl rfl) ?_ | refine op_at (opD_store rfl rfl rfl rfl rfl (by repeat (first | with_reducible assumption | (with_reducible refine obj_here ?_; rfl) | with_reducible exact obj_set | (with_reducible refine obj_skip ?_ ?_; · ((try simp only [DH.new_next, DH.set_next]); omega)) | (with_reducible refine obj_past ?_ ?_; · ((try simp only [DH.new_next, DH.set_next]); omega)) | exact obj_here rfl | exact obj_set)) rfl) ?_ | refine op_at (opD_eqb rfl rfl rfl rfl) ?_ | refine op_at (opD_neqb rfl rfl rfl rfl) ?_ | refine op_at rfl ?_); (all_goals try dsimp only [putD, DV.cells, DH.new_next, DH.set_next, List.length_cons, List.length_nil, Nat.reduceAdd, List.set_cons_zero, List.set_cons_succ, getD_zero, getD_succ, fieldAt_zero, fieldAt_succ, thenD, blockD, retR]))
    | (refine ops_off1 rfl rfl (by first | with_reducible assumption | with_reducible rfl | decide) ?_; (all_goals try dsimp only [putD, DV.cells, DH.new_next, DH.set_next, List.length_cons, List.length_nil, Nat.reduceAdd, List.set_cons_zero, List.set_cons_succ, getD_zero, getD_succ, fieldAt_zero, fieldAt_succ, thenD, blockD, retR]))
    | (refine ops_off0 rfl rfl (by first | with_reducible assumption | with_reducible rfl | decide) ?_; (all_goals try dsimp only [putD, DV.cells, DH.new_next, DH.set_next, List.length_cons, List.length_nil, Nat.reduceAdd, List.set_cons_zero, List.set_cons_succ, getD_zero, getD_succ, fieldAt_zero, fieldAt_succ, thenD, blockD, retR]))
    | (refine ops_offn rfl rfl ?_; (all_goals try dsimp only [putD, DV.cells, DH.new_next, DH.set_next, List.length_cons, List.length_nil, Nat.reduceAdd, List.set_cons_zero, List.set_cons_succ, getD_zero, getD_succ, fieldAt_zero, fieldAt_succ, thenD, blockD, retR]))
    | (refine ops_split1 rfl rfl ?_ ?_ <;> intro hb)
    | (refine ops_split0 rfl rfl ?_ ?_ <;> intro hb)
    | ((first | refine op_pick_t rfl rfl (by first | with_reducible assumption | with_reducible rfl | decide) rfl ?_ | refine op_pick_f rfl rfl (by first | with_reducible assumption | with_reducible rfl | decide) rfl ?_ | refine op_at (opD_load rfl rfl (by repeat (first | with_reducible assumption | (with_reducible refine obj_here ?_; rfl) | with_reducible exact obj_set | (with_reducible refine obj_skip ?_ ?_; · ((try simp only [DH.new_next, DH.set_next]); omega)) | (with_reducible refine obj_past ?_ ?_; · ((try simp only [DH.new_next, DH.set_next]); omega)) | exact obj_here rfl | exact obj_set)) rfl rfl) ?_ | refine op_at (opD_store rfl rfl rfl rfl rfl (by repeat (first | with_reducible assumption | (with_reducible refine obj_here ?_; rfl) | with_reducible exact obj_set | (with_reducible refine obj_skip ?_ ?_; · ((try simp only [DH.new_next, DH.set_next]); omega)) | (with_reducible refine obj_past ?_ ?_; · ((try simp only [DH.new_next, DH.set_next]); omega)) | exact obj_here rfl | exact obj_set)) rfl) ?_ | refine op_at (opD_eqb rfl rfl rfl rfl) ?_ | refine op_at (opD_neqb rfl rfl rfl rfl) ?_ | refine op_at rfl ?_); (all_goals try dsimp only [putD, DV.cells, DH.new_next, DH.set_next, List.length_cons, List.length_nil, Nat.reduceAdd, List.set_cons_zero, List.set_cons_succ, getD_zero, getD_succ, fieldAt_zero, fieldAt_succ, thenD, blockD, retR]))
    | refine dwp_cond_t rfl (by first | with_reducible assumption | with_reducible rfl | decide) ?_
    | refine dwp_cond_f rfl (by first | with_reducible assumption | with_reducible rfl | decide) ?_
    | (refine dwp_cond rfl ?_ ?_ <;> intro hb)
    | refine dwp_block ?_
    | refine dwp_skip ?_
    | refine dwp_ret ?_
    | refine dwp_exit ?_
    | dsimp only [thenD, blockD, retR]
    | (refine ⟨_, rfl, ?_⟩; try dsimp only)
    | fail)
  all_goals exact ⟨rfl, rfl⟩
theorem few_ok : ExtSound Try.prog gFew 16 := ext_read ok2 Try.func16 rfl rfl (by
  intro args H r H' hw h
  unfold gFew at h
  split at h
  · split at h
    · rename_i l hl
      cases h
      refine ⟨rfl, rfl, ?_⟩
      rcases things_cases hl with ⟨rfl, rfl⟩ | ⟨loc, i, c, ex, rfl, h1, h2⟩
      · exact (nil_few H).mono fun r' H1 ⟨h1, h2⟩ => ⟨h1, h2 ▸ Above.refl H⟩
      · exact few16 H hw loc i c ex l h1 h2
    · cases h
  · cases h)
def E3 : List (FuncId × G) := [(15, gLive), (72, gMay), (48, gOff), (18, gMeet), (19, gCheck), (16, gFew)]
theorem okE3 : ∀ f g, (f, g) ∈ E3 → ExtSound Try.prog g f := by
  intro f g h
  simp only [E3, List.mem_cons, List.not_mem_nil, or_false, Prod.mk.injEq] at h
  rcases h with ⟨rfl, rfl⟩ | ⟨rfl, rfl⟩ | ⟨rfl, rfl⟩ | ⟨rfl, rfl⟩ | ⟨rfl, rfl⟩ | ⟨rfl, rfl⟩
  · exact live_ok
  · exact may_ok
  · exact off_ok
  · exact meet_ok
  · exact check_ok
  · exact few_ok
def X3 : Ext := Xof L E3
theorem ok3 : ProgOk Try.prog X3 := progOk_of mixed okL okE3
end Go.Det.M11

/- A thing's bytes, copied. -/
namespace Go.Det.M11
open Go Go.Det Go.Proofs
set_option maxRecDepth 4000
set_option maxHeartbeats 4000000
set_option linter.unusedVariables false
set_option linter.unusedSimpArgs false
/-- Bytes that may be read: nil, or rows of one cell. -/
def BOk (H : DH) (s : DV) (n : Nat) : Prop := (s = .sl none 0 0 true ∧ n = 0) ∨
  ∃ loc i c ex ro rs, s = .sl (some (loc, i, 1)) n c ex ∧ loc < H.next ∧ H.obj loc = some (.rows ro 1 rs) ∧ i + n ≤ rs.length ∧ ((rs.drop i).take n).all (fun r => r.length == 1 && r.all DV.one) = true
theorem BOk.mono {H H' : DH} (h : Above H H') {s : DV} {n : Nat} (k : BOk H s n) : BOk H' s n := by
  rcases k with k | ⟨loc, i, c, ex, ro, rs, h1, h2, h3, h4, h5⟩
  · exact .inl k
  · exact .inr ⟨loc, i, c, ex, ro, rs, h1, Nat.lt_of_lt_of_le h2 h.le, h.obj h2 h3, h4, h5⟩
theorem BOk.set {H : DH} {p : Option (Nat × Nat × Nat)} {n c : Nat} {ex : Bool} (k : BOk H (.sl p n c ex) n) {m : Nat} (o : Option DObj) (hm : ∀ loc i z, p = some (loc, i, z) → loc ≠ m) : BOk (H.set m o) (.sl p n c ex) n := by
  rcases k with k | ⟨loc, i, c', ex', ro, rs, h1, h2, h3, h4, h5⟩
  · exact .inl k
  · cases h1
    exact .inr ⟨loc, i, _, _, ro, rs, rfl, h2, obj_past (hm _ _ _ rfl) h3, h4, h5⟩
end Go.Det.M11

/- A thing of one's own. -/
namespace Go.Det.M11
open Go Go.Det Go.Proofs
set_option maxRecDepth 4000
set_option maxHeartbeats 4000000
set_option linter.unusedVariables false
set_option linter.unusedSimpArgs false
theorem resOf_cell {P : Program} {a : Tmp} {t : TypeId} {env : List DV} {H : DH} {l i q sz : Nat} {ro : Bool} {rs : List (List DV)} {r : List DV} {v : DV} (hp : env.getD a undefD = .ptr (some (l, i, q))) (ho : H.obj l = some (.rows ro sz rs)) (hr : rs[i]? = some r) (hv : partD P t r q = some v) : resOf P [.cell a t] env H = some v := by
  simp only [resOf, List.map_cons, List.map_nil, hp, loadD, ho, hr, hv]
/-- The bytes of a thing may be read. -/
def AirOk (H : DH) (a : AirV) : Prop := BOk H (.sl a.p a.n a.c a.ex) a.n
theorem AirOk.mono {H H' : DH} (h : Above H H') {a : AirV} (k : AirOk H a) : AirOk H' a := BOk.mono h k
/-- The same thing, but for where its bytes lie. -/
def AirV.at (a : AirV) (p : Option (Nat × Nat × Nat)) (c : Nat) (ex : Bool) : AirV := ⟨a.id, a.fr, a.ch, a.at_, a.en, p, a.n, c, ex, a.bad, a.le⟩
end Go.Det.M11

/- Things of one's own. -/
namespace Go.Det.M11
open Go Go.Det Go.Proofs
set_option maxRecDepth 4000
set_option maxHeartbeats 4000000
set_option linter.unusedVariables false
set_option linter.unusedSimpArgs false
def airZero : List DV := [.int .u64 0, .int .i64 0, .int .i64 0, .int .i64 0, .int .i64 0, .sl none 0 0 true, .bool false, .int .i64 0]
theorem opD_make {H : DH} {cf : CallF} {o : Oper} {x y : Operand} (hop : o.op = .makeSlice 22 x y) {env : List DV} {n : Nat} (hx : evalO env x = some (.int .i64 0)) (hy : evalO env y = some (.int .i64 n)) (hn : n ≤ 300) :
    opD Try.prog cf o env H = some (.sl (some (H.next, 0, 8)) 0 n true, H.new (.rows false 8 (zerosD airZero n))) := by
  have hs : sizeT Try.prog 28 = some 8 := by kernel_rfl
  have hb : bytesT Try.prog 28 = some 80 := by kernel_rfl
  have hz : zeroT Try.prog 28 = some (.agg airZero) := by kernel_rfl
  simp only [opD, hop, mover, moveD, hx, hy, if_true]
  unfold makeSliceD
  rw [Try.underlying22]
  simp only [hs, hb, hz]
  rw [if_pos ⟨by omega, by omega, by unfold mostD; omega, by omega, rfl, rfl⟩, Int.toNat_natCast]
  rfl
/-- One thing more, into room that there is. -/
theorem opD_push {H : DH} {cf : CallF} {o : Oper} {x y : Operand} (hop : o.op = .call ⟨.builtin .append, #[x, y], #[22, 22]⟩) {env : List DV} {l0 l k cap c : Nat} {ex ex' ro : Bool} {rs : List (List DV)} {a : AirV} (hx : evalO env x = some (.sl (some (l0, 0, 8)) k cap ex)) (hy : evalO env y = some (.sl (some (l, 0, 8)) 1 c ex'))
    (h0 : H.obj l0 = some (.rows false 8 rs)) (ho : H.obj l = some (.rows ro 8 [a.cells])) (hcap : k + 1 ≤ cap) (hlen : k + 1 ≤ rs.length) (hk : k ≤ 300) :
    opD Try.prog cf o env H = some (.sl (some (l0, 0, 8)) (k + 1) cap ex, H.set l0 (some (.rows false 8 (setRows rs k [a.cells])))) := by
  have hs : sizeT Try.prog 28 = some 8 := by kernel_rfl
  have hb : bytesT Try.prog 28 = some 80 := by kernel_rfl
  have hz : zeroT Try.prog 28 = some (.agg airZero) := by kernel_rfl
  have hap : appendedD Try.prog 28 H (some (.slice 28)) (.sl (some (l, 0, 8)) 1 c ex') = some [a.cells] := by
    simp only [appendedD, rowsOf, ho]
    rfl
  simp only [opD, hop, mover, moveD, hx, hy, if_true]
  show appendD Try.prog 22 (Try.prog.underlying 22) H (.sl (some (l0, 0, 8)) k cap ex) (.sl (some (l, 0, 8)) 1 c ex') = _
  rw [Try.underlying22]
  unfold appendD
  rw [Try.underlying22]
  simp only [hs, hb, hz, hap]
  rw [if_pos ⟨by omega, rfl, rfl⟩]
  simp only [h0]
  rw [if_neg (by simp), if_neg (by simp), if_neg (by simp only [List.length_cons, List.length_nil]; unfold mostD; omega), if_pos (by simp only [List.length_cons, List.length_nil]; omega), if_pos ⟨trivial, by simp only [List.length_cons, List.length_nil]; omega⟩]
  simp only [List.length_cons, List.length_nil, Nat.zero_add]
end Go.Det.M11

/- Regions that draw their order, where what is read stays readable in all heaps of a kind, and what is done stays within that kind. -/
namespace Go.Det
set_option linter.unusedVariables false
set_option linter.unusedSimpArgs false
section
variable {P : Program} {X : Ext}
/-- What is left of a region whose operations below b stand before all that comes; what was read since reads the same in each heap of the kind Φ. -/
structure DrawP (P : Program) (X : Ext) (all : Array Oper) (bef : Array Nat) (b : Nat) (Φ : DH → Prop) (i : Nat) (l : List Oper) (st : DSt) (K : DSt → Prop) : Prop where
  ex : ∀ seen was, (∀ s ∈ seen, s.i < i ∧ (b ≤ s.i → ∀ H', Φ H' → readD P s.o (evalO s.env) H' = some s.v)) → (∀ w ∈ was, w.i < i ∧ (b ≤ w.i → Φ w.H)) → Φ st.H → DrawWp P X all bef l i seen was st K
theorem wanted_none {o : Oper} {y : Nat → Option Bool} {g : Nat} {w : Bool} (hg : o.guard = some (g, w)) (hy : y g = none) : Region.wanted o y = false := by unfold Region.wanted; rw [hg]; simp [hy]
theorem ops_offn {all : Array Oper} {o : Oper} {r : List Oper} {st : DSt} {K : DSt → Prop} {g : Nat} {w : Bool} (hg : o.guard = some (g, w)) (hy : dyield all st.env g = none)
    (h : OpsWp P X all r ⟨putD st.env o.dst undefD, st.H⟩ K) : OpsWp P X all (o :: r) st K :=
  ops_off (wanted_none hg hy) h
theorem dwp_drawp {id : Nat} {ops : Array Oper} {st : DSt} {Q : DExit → DSt → Prop} (bef : Array Nat) (hbef : Region.before ops = bef) (Φ : DH → Prop) (h0 : Φ st.H) (h : DrawP P X ops bef 0 Φ 0 ops.toList st (fun st' => Q .normal st')) : Dwp P X (.region id ops true) st Q :=
  dwp_draw bef hbef (h.ex [] [] (by simp) (by simp) h0)
section
variable {all : Array Oper} {bef : Array Nat} {b i : Nat} {Φ : DH → Prop} {o : Oper} {r : List Oper} {st : DSt} {K : DSt → Prop}
theorem drawc_pick_t (hw : Region.wanted o (dyield all st.env) = true) {c x y : Operand} (ho : o.op = .pick c x y) {t : Bool} (hc : evalO st.env c = some (.bool t)) (hb : t = true) {v : DV} (hv : evalO st.env x = some v)
    (h : DrawC P X all bef b (i + 1) r ⟨putD st.env o.dst v, st.H⟩ K) : DrawC P X all bef b i (o :: r) st K :=
  drawc_pick hw ho hc (by subst hb; exact hv) h
theorem drawc_pick_f (hw : Region.wanted o (dyield all st.env) = true) {c x y : Operand} (ho : o.op = .pick c x y) {t : Bool} (hc : evalO st.env c = some (.bool t)) (hb : t = false) {v : DV} (hv : evalO st.env y = some v)
    (h : DrawC P X all bef b (i + 1) r ⟨putD st.env o.dst v, st.H⟩ K) : DrawC P X all bef b i (o :: r) st K :=
  drawc_pick hw ho hc (by subst hb; exact hv) h
theorem drawp_nil (h : K st) : DrawP P X all bef b Φ i [] st K := ⟨fun _ _ _ _ _ => draw_nil h⟩
theorem drawp_pure (hw : Region.wanted o (dyield all st.env) = true) (hm : mover P o.op = false) (hr : reader P o.op = false) {v : DV} (hv : opD P (fun _ _ _ => none) o st.env st.H = some (v, st.H))
    (h : DrawP P X all bef b Φ (i + 1) r ⟨putD st.env o.dst v, st.H⟩ K) : DrawP P X all bef b Φ i (o :: r) st K :=
  ⟨fun seen was hs hw' h0 => draw_pure hw hm hr (op_at hv (h.ex seen was (fun s m => ⟨by have := (hs s m).1; omega, (hs s m).2⟩) (fun s m => ⟨by have := (hw' s m).1; omega, (hw' s m).2⟩) h0))⟩
theorem drawp_read (hw : Region.wanted o (dyield all st.env) = true) (hm : mover P o.op = false) (hr : reader P o.op = true) (hb : allBits b (bef.getD i 0) = true) {v : DV} (hv : ∀ H', Φ H' → opD P (fun _ _ _ => none) o st.env H' = some (v, H'))
    (h : DrawP P X all bef b Φ (i + 1) r ⟨putD st.env o.dst v, st.H⟩ K) : DrawP P X all bef b Φ i (o :: r) st K := by
  refine ⟨fun seen was hs hw' h0 => draw_read hw hm hr (op_at (hv _ h0) ⟨?_, h.ex _ was ?_ (fun s m => ⟨by have := (hw' s m).1; omega, (hw' s m).2⟩) h0⟩)⟩
  · unfold stillWas
    rw [List.all_eq_true]
    intro w m
    rw [Bool.or_eq_true]
    rcases Nat.lt_or_ge w.i b with hlt | hge
    · exact .inl (allBits_at hb hlt)
    · right
      exact still_of ((opD_stays (hv _ ((hw' w m).2 hge)) hm).2.1 hr)
  · intro s m
    rcases List.mem_cons.mp m with rfl | m
    · exact ⟨Nat.lt_succ_self _, fun _ H' hp => (opD_stays (hv _ hp) hm).2.1 hr⟩
    · exact ⟨by have := (hs s m).1; omega, (hs s m).2⟩
/-- What changes the heap, but stays within its kind. -/
theorem drawp_move (hw : Region.wanted o (dyield all st.env) = true) (hm : mover P o.op = true) (hb : allBits b (bef.getD i 0) = true)
    (h : OpWp P X o st.env st.H (fun v H => Φ H ∧ DrawP P X all bef b Φ (i + 1) r ⟨putD st.env o.dst v, H⟩ K)) : DrawP P X all bef b Φ i (o :: r) st K := by
  refine ⟨fun seen was hs hw' h0 => draw_move hw hm ?_⟩
  obtain ⟨k, v, H, h1, hH, h2⟩ := h.ex
  refine ⟨⟨k, v, H, h1, ?_, h2.ex _ _ ?_ ?_ hH⟩⟩
  · unfold stillAll
    rw [List.all_eq_true]
    intro s m
    rw [Bool.or_eq_true]
    rcases Nat.lt_or_ge s.i b with hlt | hge
    · exact .inl (allBits_at hb hlt)
    · exact .inr (still_of ((hs s m).2 hge _ hH))
  · exact fun s m => ⟨by have := (hs s m).1; omega, (hs s m).2⟩
  · intro w m
    rcases List.mem_cons.mp m with rfl | m
    · exact ⟨Nat.lt_succ_self _, fun _ => h0⟩
    · exact ⟨by have := (hw' w m).1; omega, (hw' w m).2⟩
/-- What changes the heap, behind all that stands before it: the kind may be another one from there on. -/
theorem drawp_sync (Ψ : DH → Prop) (hw : Region.wanted o (dyield all st.env) = true) (hm : mover P o.op = true) (hb : allBits i (bef.getD i 0) = true)
    (h : OpWp P X o st.env st.H (fun v H => Ψ H ∧ DrawP P X all bef (i + 1) Ψ (i + 1) r ⟨putD st.env o.dst v, H⟩ K)) : DrawP P X all bef b Φ i (o :: r) st K := by
  refine ⟨fun seen was hs hw' h0 => draw_move hw hm ?_⟩
  obtain ⟨k, v, H, h1, hH, h2⟩ := h.ex
  refine ⟨⟨k, v, H, h1, ?_, h2.ex _ _ ?_ ?_ hH⟩⟩
  · unfold stillAll
    rw [List.all_eq_true]
    intro s m
    rw [Bool.or_eq_true]
    exact .inl (allBits_at hb (hs s m).1)
  · exact fun s m => ⟨by have := (hs s m).1; omega, fun h => by have := (hs s m).1; omega⟩
  · intro w m
    rcases List.mem_cons.mp m with rfl | m
    · exact ⟨Nat.lt_succ_self _, fun h => absurd h (by simp only; omega)⟩
    · exact ⟨by have := (hw' w m).1; omega, fun h => by have := (hw' w m).1; omega⟩
end
end
end Go.Det

/- Slices whose rows are told; slices of one's own, that grow. -/
namespace Go.Det
set_option linter.unusedVariables false
set_option linter.unusedSimpArgs false
theorem junk_facts {A : Prop} {env : List DV} {H H' : DH} {F : (Nat → DV) → List DV} (ha : A) (h : F (fun k => env.getD k undefD) = env) (hH : H = H') : ∃ J : Nat → DV, A ∧ (⟨env, H⟩ : DSt) = ⟨F J, H'⟩ := ⟨_, ha, by rw [h, hH]⟩
/-- A slice's rows: where it leads to, R lie. -/
inductive Sl (H : DH) (z : Nat) (R : List (List DV)) : Option (Nat × Nat × Nat) → Prop
  | nil : R = [] → Sl H z R none
  | at {loc i : Nat} {ro : Bool} {rs : List (List DV)} : loc < H.next → H.obj loc = some (.rows ro z rs) → i + R.length ≤ rs.length → (rs.drop i).take R.length = R → Sl H z R (some (loc, i, z))
section
variable {H H' A : DH} {z : Nat} {R : List (List DV)} {p : Option (Nat × Nat × Nat)}
theorem Sl.rd (h : Sl H z R p) {k : Nat} {r : List DV} (hk : R[k]? = some r) : ∃ loc i ro rs, p = some (loc, i, z) ∧ loc < H.next ∧ H.obj loc = some (.rows ro z rs) ∧ rs[i + k]? = some r := by
  cases h with
  | nil h => subst h; simp at hk
  | @«at» loc i ro rs h1 h2 h3 h4 =>
    refine ⟨loc, i, ro, rs, rfl, h1, h2, ?_⟩
    have hlt := (List.getElem?_eq_some_iff.mp hk).1
    rw [← h4, List.getElem?_take, if_pos hlt, List.getElem?_drop] at hk
    exact hk
theorem Sl.mono (h : Sl H z R p) (ha : Above H H') : Sl H' z R p := by
  cases h with
  | nil h => exact .nil h
  | «at» h1 h2 h3 h4 => exact .at (Nat.lt_of_lt_of_le h1 ha.le) (ha.obj h1 h2) h3 h4
theorem Sl.rows (h : Sl H z R p) (c : Nat) (ex : Bool) : rowsOf H (.sl p R.length c ex) = some R := by
  cases h with
  | nil h => subst h; rfl
  | «at» h1 h2 h3 h4 => simp only [rowsOf, h2, if_pos h3, h4]
theorem Sl.fresh {ro : Bool} : Sl (H.new (.rows ro z R)) z R (some (H.next, 0, z)) := .at (Nat.lt_succ_self _) (obj_here rfl) (by omega) (by simp)
theorem Sl.new (h : Sl H z R p) (o : DObj) : Sl (H.new o) z R p := h.mono ((Above.refl H).new o)
theorem Sl.set (h : Sl H z R p) (m : Nat) (o : Option DObj) (hm : ∀ loc i z, p = some (loc, i, z) → loc ≠ m) : Sl (H.set m o) z R p := by
  cases h with
  | nil h => exact .nil h
  | «at» h1 h2 h3 h4 => exact .at h1 (obj_past (hm _ _ _ rfl) h2) h3 h4
theorem Sl.sub (h : Sl H z R p) {a b : Nat} (hab : a ≤ b) (hb : b ≤ R.length) : Sl H z ((R.drop a).take (b - a)) (p.map fun (l, i, z) => (l, i + a, z)) := by
  cases h with
  | nil h => subst h; exact .nil (by simp)
  | @«at» loc i ro rs h1 h2 h3 h4 =>
    have e : ((R.drop a).take (b - a)).length = b - a := by rw [List.length_take, List.length_drop]; omega
    refine .at h1 h2 (by rw [e]; omega) ?_
    rw [e]
    conv => rhs; rw [← h4]
    rw [List.drop_take, List.take_take, List.drop_drop, Nat.min_eq_left (by omega)]
theorem Sl.in_rows {loc i : Nat} (h : Sl H z R (some (loc, i, z))) : ∃ ro rs, H.obj loc = some (.rows ro z rs) ∧ i + R.length ≤ rs.length ∧ (rs.drop i).take R.length = R ∧ loc < H.next := by
  cases h with
  | «at» h1 h2 h3 h4 => exact ⟨_, _, h2, h3, h4, h1⟩
theorem Sl.size {l i y : Nat} (h : Sl H z R (some (l, i, y))) : y = z := by cases h; rfl
theorem Sl.none_len (h : Sl H z R none) : R = [] := by cases h; assumption
end
/-- All but one place as it was. -/
structure AboveX (x : Nat → Prop) (H H' : DH) : Prop where
  le : H.next ≤ H'.next
  same : ∀ l, l < H.next → ¬ x l → H'.obj l = H.obj l
theorem AboveX.refl {x : Nat → Prop} (H : DH) : AboveX x H H := ⟨Nat.le_refl _, fun _ _ _ => rfl⟩
theorem AboveX.of {x : Nat → Prop} {H H' : DH} (h : Above H H') : AboveX x H H' := ⟨h.le, fun l hl _ => h.same l hl⟩
theorem AboveX.trans {x : Nat → Prop} {A B C : DH} (h : AboveX x A B) (k : AboveX x B C) : AboveX x A C := ⟨Nat.le_trans h.le k.le, fun l hl hx => (k.same l (Nat.lt_of_lt_of_le hl h.le) hx).trans (h.same l hl hx)⟩
theorem AboveX.above {x : Nat → Prop} {A H H' : DH} (ha : Above A H) (h : AboveX x H H') (hx : ∀ l, x l → A.next ≤ l) : Above A H' :=
  ⟨Nat.le_trans ha.le h.le, fun l hl => (h.same l (Nat.lt_of_lt_of_le hl ha.le) fun k => by have := hx l k; omega).trans (ha.same l hl)⟩
theorem AboveX.set (x : Nat → Prop) (H : DH) (l : Nat) (o : Option DObj) (hx : x l) : AboveX x H (H.set l o) := ⟨Nat.le_refl _, fun m _ hm => obj_past (fun e => hm (e ▸ hx)) rfl⟩
theorem AboveX.new (x : Nat → Prop) (H : DH) (o : DObj) : AboveX x H (H.new o) := .of ((Above.refl H).new o)
theorem AboveX.none {H H' : DH} (h : AboveX (fun _ => False) H H') : Above H H' := ⟨h.le, fun l hl => h.same l hl id⟩
theorem Sl.monoX {x : Nat → Prop} {H H' : DH} {z : Nat} {R : List (List DV)} {p : Option (Nat × Nat × Nat)} (h : Sl H z R p) (ha : AboveX x H H') (hx : ∀ l i z, p = some (l, i, z) → ¬ x l) : Sl H' z R p := by
  cases h with
  | nil h => exact .nil h
  | «at» h1 h2 h3 h4 => exact .at (Nat.lt_of_lt_of_le h1 ha.le) ((ha.same _ h1 (hx _ _ _ rfl)).trans h2) h3 h4
/-- Where a slice leads to. -/
def leads (s : DV) (l : Nat) : Prop := ∃ i z n c ex, s = .sl (some (l, i, z)) n c ex
theorem leads_at {a i z n c l m : Nat} {ex : Bool} (h : leads (.sl (some (a, i, z)) n c ex) l) (k : m ≤ a) : m ≤ l := by
  obtain ⟨_, _, _, _, _, e⟩ := h
  cases e
  exact k
/-- A slice of one's own: made since the heap was A, or empty. -/
inductive Mine (A H : DH) (z : Nat) (R : List (List DV)) : DV → Prop
  | nil : R = [] → Mine A H z R (.sl none 0 0 true)
  | empty {loc i : Nat} {ro : Bool} {rs : List (List DV)} : R = [] → loc < H.next → H.obj loc = some (.rows ro z rs) → i ≤ rs.length → Mine A H z R (.sl (some (loc, i, z)) 0 0 true)
  | at {loc : Nat} {ex : Bool} : A.next ≤ loc → loc < H.next → H.obj loc = some (.rows false z R) → Mine A H z R (.sl (some (loc, 0, z)) R.length R.length ex)
section
variable {H H' A : DH} {z : Nat} {R : List (List DV)} {s : DV}
theorem Mine.sl (h : Mine A H z R s) : ∃ p c ex, s = .sl p R.length c ex ∧ Sl H z R p := by
  cases h with
  | nil h => subst h; exact ⟨none, 0, true, rfl, .nil rfl⟩
  | empty h h1 h2 h3 => subst h; exact ⟨_, 0, true, rfl, .at h1 h2 (by simpa using h3) (by simp)⟩
  | «at» h1 h2 h3 => exact ⟨_, _, _, rfl, .at h2 h3 (by omega) (by simp)⟩
theorem Mine.mono (h : Mine A H z R s) (ha : Above H H') : Mine A H' z R s := by
  cases h with
  | nil h => exact .nil h
  | empty h h1 h2 h3 => exact .empty h (Nat.lt_of_lt_of_le h1 ha.le) (ha.obj h1 h2) h3
  | «at» h1 h2 h3 => exact .at h1 (Nat.lt_of_lt_of_le h2 ha.le) (ha.obj h2 h3)
theorem Mine.monoX {x : Nat → Prop} (h : Mine A H z R s) (ha : AboveX x H H') (hx : ∀ l, leads s l → ¬ x l) : Mine A H' z R s := by
  cases h with
  | nil h => exact .nil h
  | empty h h1 h2 h3 => exact .empty h (Nat.lt_of_lt_of_le h1 ha.le) ((ha.same _ h1 (hx _ ⟨_, _, _, _, _, rfl⟩)).trans h2) h3
  | «at» h1 h2 h3 => exact .at h1 (Nat.lt_of_lt_of_le h2 ha.le) ((ha.same _ h2 (hx _ ⟨_, _, _, _, _, rfl⟩)).trans h3)
end
/-- The facts of an element's type. -/
structure ElemT (P : Program) (st e : TypeId) (z by_ : Nat) (z0 : DV) : Prop where
  u : P.underlying st = some (.slice e)
  s : sizeT P e = some z
  b : bytesT P e = some by_
  zr : zeroT P e = some z0
  pos : 0 < z
  le : by_ ≤ 4096
  len : z0.cells.length = z
  one : z0.cells.all DV.one = true
section
variable {P : Program} {X : Ext} {st e : TypeId} {z by_ : Nat} {z0 : DV}
theorem appendD_mine (E : ElemT P st e z by_ z0) {A H : DH} {R new : List (List DV)} {s x : DV} {xt : Option TypeDesc} (hown : Mine A H z R s) (hab : Above A H) (hnew : appendedD P e H xt x = some new) (hall : new.all (fun r => r.length == z && r.all DV.one) = true) (hlen : R.length + new.length ≤ mostD) :
    ∃ s' H', appendD P st xt H s x = some (s', H') ∧ Mine A H' z (R ++ new) s' ∧ Above A H' ∧ AboveX (fun l => A.next ≤ l ∧ leads s l) H H' ∧ (new ≠ [] → ∀ l, leads s' l → H.next ≤ l) := by
  obtain ⟨m, rfl⟩ : ∃ m, z = m + 1 := ⟨z - 1, by have := E.pos; omega⟩
  have hc : by_ ≤ 4096 ∧ z0.cells.length = m + 1 ∧ (new.all fun r => r.length == m + 1 && r.all DV.one) = true := ⟨E.le, E.len, hall⟩
  unfold appendD
  simp only [E.u, E.s, E.b, E.zr, hnew]
  rw [if_pos hc]
  cases hown with
  | nil h =>
    subst h
    simp only
    by_cases hn : new = []
    · rw [if_pos hn]
      subst hn
      exact ⟨_, _, rfl, .nil rfl, hab, .refl H, fun hne => absurd rfl hne⟩
    · rw [if_neg hn, if_pos (by simpa using hlen)]
      exact ⟨_, _, rfl, .at (Nat.le_trans hab.le (Nat.le_refl _)) (Nat.lt_succ_self _) (obj_here rfl), hab.new _, .new _ _ _, fun _ l hl => leads_at hl (Nat.le_refl _)⟩
  | @empty loc i ro rs h h1 h2 h3 =>
    subst h
    simp only
    rw [if_neg (by simp)]
    by_cases hn : new = []
    · rw [if_pos hn]
      subst hn
      exact ⟨_, _, rfl, .empty rfl h1 h2 h3, hab, .refl H, fun hne => absurd rfl hne⟩
    · rw [if_neg hn]
      simp only [h2]
      have hpos : 0 < new.length := List.length_pos_iff.mpr hn
      rw [if_neg (by simp only [List.length_nil] at hlen; omega), if_neg (by omega), if_pos trivial]
      refine ⟨_, _, rfl, ?_, hab.new _, .new _ _ _, fun _ l hl => leads_at hl (Nat.le_refl _)⟩
      have e1 : (rs.drop i).take 0 ++ new = new := by simp
      rw [e1]
      have e2 : 0 + new.length = ([] ++ new).length := by simp
      rw [e2]
      exact .at (Nat.le_trans hab.le (Nat.le_refl _)) (Nat.lt_succ_self _) (obj_here rfl)
  | @«at» loc ex h1 h2 h3 =>
    simp only
    rw [if_neg (by simp)]
    by_cases hn : new = []
    · rw [if_pos hn]
      subst hn
      rw [List.append_nil]
      exact ⟨_, _, rfl, .at h1 h2 h3, hab, .refl H, fun hne => absurd rfl hne⟩
    · rw [if_neg hn]
      simp only [h3]
      have hpos : 0 < new.length := List.length_pos_iff.mpr hn
      rw [if_neg (by omega), if_neg (by omega)]
      have e1 : (R.drop 0).take R.length ++ new = R ++ new := by simp
      have e2 : R.length + new.length = (R ++ new).length := by simp
      rw [e1, e2]
      cases ex with
      | true =>
        rw [if_pos rfl]
        exact ⟨_, _, rfl, .at (Nat.le_trans hab.le (Nat.le_refl _)) (Nat.lt_succ_self _) (obj_here rfl), hab.new _, .new _ _ _, fun _ l hl => leads_at hl (Nat.le_refl _)⟩
      | false =>
        rw [if_neg (by simp), if_pos trivial]
        refine ⟨_, _, rfl, .at (Nat.le_trans hab.le (Nat.le_refl _)) (Nat.lt_succ_self _) (obj_here rfl), (hab.set h1 _).new _, ?_, fun _ l hl => leads_at hl (Nat.le_refl _)⟩
        exact (AboveX.set _ H loc none ⟨h1, _, _, _, _, _, rfl⟩).trans (.new _ _ _)
/-- One's own slice grows. -/
theorem op_append {o : Oper} {x y : Operand} {xt : TypeId} (ho : o.op = .call ⟨.builtin .append, #[x, y], #[st, xt]⟩) {env : List DV} {A H : DH} {K : DV → DH → Prop} {s d : DV} (hx : evalO env x = some s) (hy : evalO env y = some d)
    (E : ElemT P st e z by_ z0) {R new : List (List DV)} (hown : Mine A H z R s) (hab : Above A H) (hnew : appendedD P e H (P.underlying xt) d = some new) (hall : new.all (fun r => r.length == z && r.all DV.one) = true) (hlen : R.length + new.length ≤ mostD)
    (hk : ∀ s' H', Mine A H' z (R ++ new) s' → Above A H' → AboveX (fun l => A.next ≤ l ∧ leads s l) H H' → (new ≠ [] → ∀ l, leads s' l → H.next ≤ l) → K s' H') : OpWp P X o env H K := by
  obtain ⟨s', H', h1, h2, h3, h4, h5⟩ := appendD_mine E hown hab hnew hall hlen
  refine op_at (v := s') (H' := H') ?_ (hk s' H' h2 h3 h4 h5)
  simp only [opD, ho, mover, moveD, hx, hy, if_true]
  exact h1
theorem appended_sl {H : DH} {xt : Option TypeDesc} {t : TypeId} (hu : xt = some (.slice t)) {R : List (List DV)} {p : Option (Nat × Nat × Nat)} (h : Sl H z R p) (c : Nat) (ex : Bool) : appendedD P e H xt (.sl p R.length c ex) = some R := by
  subst hu
  simp only [appendedD]
  exact h.rows c ex
end
end Go.Det

/- Things of one's own: the copies. -/
namespace Go.Det.M11
open Go Go.Det Go.Proofs
set_option maxRecDepth 4000
set_option maxHeartbeats 4000000
set_option linter.unusedVariables false
set_option linter.unusedSimpArgs false
/-- The same things, but for where their bytes lie. -/
def Sim (l l' : List AirV) : Prop := l'.length = l.length ∧ ∀ (k : Nat) (a : AirV), l[k]? = some a → ∃ p c ex, l'[k]? = some (a.at p c ex)
end Go.Det.M11

/- A thing is launched. -/
namespace Go.Det.M11
open Go Go.Det Go.Proofs
set_option maxRecDepth 4000
set_option maxHeartbeats 4000000
set_option linter.unusedVariables false
set_option linter.unusedSimpArgs false
/-- A slice of things. -/
structure Th (H : DH) (p : Option (Nat × Nat × Nat)) (c : Nat) (ex : Bool) (l : List AirV) : Prop where
  sl : Sl H 8 (l.map AirV.cells) p
  nil : p = none → c = 0 ∧ ex = true
  len : l.length ≤ maxLen
theorem Th.mono {H H' : DH} {p : Option (Nat × Nat × Nat)} {c : Nat} {ex : Bool} {l : List AirV} (h : Th H p c ex l) (k : Above H H') : Th H' p c ex l := ⟨h.sl.mono k, h.nil, h.len⟩
theorem Th.of {H : DH} {p : Option (Nat × Nat × Nat)} {c : Nat} {ex : Bool} {l : List AirV} (h : Th H p c ex l) : thingsOf H (.sl p l.length c ex) = some l := by
  have hr := h.sl.rows c ex
  rw [List.length_map] at hr
  cases p with
  | none =>
    obtain ⟨rfl, rfl⟩ := h.nil rfl
    have := h.sl.none_len
    cases l with
    | nil => rfl
    | cons a l => simp at this
  | some q =>
    obtain ⟨loc, i, z⟩ := q
    have hz := h.sl.size
    subst hz
    obtain ⟨ro, rs, h1, h2, h3, _⟩ := h.sl.in_rows
    rw [List.length_map] at h2 h3
    simp only [thingsOf, h1, h3, airsOf_map]
    rw [if_pos ⟨trivial, h.len⟩]
theorem Th.check {H : DH} {p : Option (Nat × Nat × Nat)} {c : Nat} {ex : Bool} {l : List AirV} (h : Th H p c ex l) : gCheck [.sl p l.length c ex] H = some (.int .i64 (checkI l), H) := by simp only [gCheck, h.of]
def AirV.meet (a x : AirV) : Bool := meetB a.ch a.at_ a.en x.ch x.at_ x.en
def AirV.setBad (a : AirV) (b : Bool) : AirV := { a with bad := b }
/-- What a thing is behind another one's launch. -/
def AirV.upd (x a : AirV) : AirV := a.setBad (a.bad || a.meet x)
/-- The things, so many of them met. -/
def part (l : List AirV) (x' x : AirV) (k : Nat) : List AirV := (l.take k).map x.upd ++ l.drop k ++ [x'.setBad (x'.bad || (l.take k).any fun a => a.meet x)]
theorem setRow_at {rs : List (List DV)} {i off : Nat} {r vs : List DV} (hr : rs[i]? = some r) (hv : off + vs.length ≤ r.length) (ho : vs.all DV.one = true) : setRow rs i off vs = some (rs.set i (splice r off vs)) := by
  unfold setRow
  rw [hr]
  simp only [hv, ho, and_self, if_true]
theorem off_small {x : AirV} (h : x.off = false) : x.n ≤ 64 := by
  unfold AirV.off fitB at h
  simp only [Bool.not_eq_false', Bool.and_eq_true, decide_eq_true_eq] at h
  omega
theorem check_small {l : List AirV} (h : checkI l = 0) : l.length ≤ 256 ∧ ∀ a ∈ l, a.n ≤ 64 := by
  unfold checkI at h
  split at h
  · rename_i hc
    refine ⟨hc.1, fun a ha => off_small ?_⟩
    exact List.any_eq_false.mp hc.2.1 a ha |> fun h => by simpa using h
  · cases h
end Go.Det.M11

/- A row out of what the deterministic reading comes to, all places below the next. -/
namespace Go.Det
set_option linter.unusedVariables false
set_option linter.unusedSimpArgs false
open Go.ChangeShapes Go.WideShapes Go.RowKit
section
variable {P : Program} {A : Type} {enc : TypeId × Value → A} {W : World}
/-- A row whose call answers true, whatever it is handed. -/
theorem row_law {C : Checked} {os : Os} {f : FuncId} {fn : Func} {c : Code} {s : ChangeSpec} {conds : List PathCond} {X : Ext} {ts : List TypeId} {rt : TypeId} {n : Nat}
    (own : ownKnob C.prog.godebug = none) (started : os.Started) (noInit : C.prog.inits.idxOf? f = none) (hfn : C.prog.funcs[f]? = some fn)
    (witness : ∃ (w : World) (tape : Tape) (i : Input), w.os = os ∧ (w.forCall tape i).Shaped C.prog ∧ i.vars = [] ∧ Input.okWide C.prog (w.forCall tape i) .any w.heap.size f i ∧
      s.pre6 enc C.prog fn conds false (w.forCall tape i).memory i.args ∧ Assume.holds {} C.prog (lone (Frame.enter C.prog f i.args .normal) [] (w.forCall tape i)))
    (hb : fn.body = some c) (hX : ProgOk C.prog X) (hx : X f = none) (hts : fn.params = ts.toArray) (hrt : fn.resultTypes = #[rt]) (hrb : C.prog.underlying rt = some .bool)
    (hok : (ts.all fun t => okTy C.prog n t) = true) (hread : (ts.all fun t => C.prog.readableRec t && decide (t < C.prog.types.size)) = true) (hlaid : laidOutB C.prog = true)
    (hvars : s.vars = []) (hs : ∀ ds : List (DataW A), ds.length = ts.length → s.fn A ds = { results := [.lit (.bool true)], args := ds })
    (law : ∀ H xs, RO H → WF H → TArgs C.prog H ts xs → ∃ k H', callD C.prog X k f xs H = some (.bool true, H')) :
    ReturnsInHanded {} C os f .any (s.pre6 enc C.prog fn conds false) (s.post enc C.prog fn false true false false) := by
  refine returnsInHanded_of_change_sized own started noInit hfn witness ?_
  intro W base args ds gs before hval hW hcnd hsz hhold
  have hW' := hW
  obtain ⟨p, q, hA, hV, rfl, hfz, hnd⟩ := hW
  rw [hvars] at hV
  obtain ⟨rfl, rfl⟩ := trodVars_none hV
  have hts' : fn.params.toList = ts := by rw [hts]
  have hA' := hA
  rw [hts'] at hA'
  obtain ⟨ρ, H, xs, g, v1, t1⟩ := args_in (n := n) ts args.toList ds p (fun j t v h1 h2 => hval j t v (by rw [hts]; simpa using h1) (by simpa using h2)) hA' hok (empty_agree (W := W)) (fun l o h => by cases h)
  obtain ⟨k, H', hcall⟩ := law H xs g.ro g.agree.wf t1
  have hlen : ds.length = ts.length := by
    clear hval hW' hcnd hsz hhold hA hok hread t1 law hs
    revert hA'
    generalize args.toList = vs
    clear v1
    intro hA'
    have : ∀ (ts : List TypeId) (vs : List Value) (ds : List (DataW A)) (p : List MemPlace), DataW.TrodAll enc C.prog W 0 (fun _ => true) true ts vs ds p → ds.length = ts.length := by
      intro ts
      induction ts with
      | nil => intro vs ds p h; obtain ⟨_, rfl, _⟩ := trodAll_nil h; rfl
      | cons t ts ih =>
        intro vs ds p h
        obtain ⟨v, vs', d, ds', p, q, rfl, rfl, rfl, h1, h2⟩ := trodAll_cons h
        simp [ih _ _ _ h2]
    exact this ts vs ds p hA'
  refine (calls_sound hX hfn hb hx hcall g.agree v1).mono fun e W' he => ?_
  cases e with
  | returned v =>
    obtain ⟨ρ', hv, hm⟩ := he
    simp only [VR] at hv
    subst hv
    have hbel := hm.below g.ro
    obtain ⟨pa, hpa⟩ := trodAll_below hlaid hbel ts args.toList ds p hread hA'
    refine ⟨_, rfl, ds, [], _, [], pa, [], hW', ?_, ?_, ?_, hbel.frame _, fun h => by cases h⟩
    · rw [List.append_nil, hs ds hlen, hrt]
      exact trodAll_mk1 (shut_bool hrb true)
    · rw [List.append_nil, hs ds hlen, hts']
      exact hpa
    · rw [hvars]
      simp only [DataW.TrodVars, List.append_nil, hs ds hlen]
  | panicked ch => exact he.elim
  | outgrown => exact he.elim
end
end Go.Det

/- Things that come in. -/
namespace Go.Det.M11
open Go Go.Det Go.Proofs
set_option maxRecDepth 4000
set_option maxHeartbeats 4000000
set_option linter.unusedVariables false
set_option linter.unusedSimpArgs false
theorem Th.few {H : DH} {p : Option (Nat × Nat × Nat)} {c : Nat} {ex : Bool} {l : List AirV} (h : Th H p c ex l) : gFew [.sl p l.length c ex] H = some (.bool (fewB l), H) := by simp only [gFew, h.of]
/-- What a launch answers is a slice of things. -/
theorem Th.at {H : DH} {loc c : Nat} {ex : Bool} {l : List AirV} (ho : H.obj loc = some (.rows false 8 (l.map AirV.cells))) (hn : loc < H.next) (hl : l.length ≤ maxLen) : Th H (some (loc, 0, 8)) c ex l :=
  ⟨.at hn ho (by simp) (by rw [List.drop_zero, List.take_length]), fun h => (by cases h), hl⟩
end Go.Det.M11

/- MediumGarbles: the plain law. -/
namespace Go.Det.M11
open Go Go.Det Go.Proofs
set_option maxRecDepth 4000
set_option maxHeartbeats 4000000
set_option linter.unusedVariables false
set_option linter.unusedSimpArgs false
/-- The same but for where its bytes lie, and whether it is garbled. -/
structure AirV.like (a b : AirV) : Prop where
  id : a.id = b.id
  fr : a.fr = b.fr
  ch : a.ch = b.ch
  at_ : a.at_ = b.at_
  en : a.en = b.en
  n : a.n = b.n
  le : a.le = b.le
theorem AirV.like.meet {a b x y : AirV} (h : a.like b) (k : x.like y) : a.meet x = b.meet y := by
  unfold AirV.meet; rw [h.ch, h.at_, h.en, k.ch, k.at_, k.en]
theorem AirV.like.off {a b : AirV} (h : a.like b) : a.off = b.off := by
  unfold AirV.off; rw [h.fr, h.ch, h.at_, h.en, h.n, h.le]
/-- Does the thing of a place meet it? -/
def mt (A : List AirV) (j : Nat) (a : AirV) : Bool := match A[j]? with
  | some y => a.meet y
  | none => false
/-- Does it meet another one of the first ones? -/
def others (A : List AirV) (i : Nat) (a : AirV) (k : Nat) : Bool := (List.range k).any fun j => (j != i) && mt A j a
/-- What holds of the things that were launched, of the first k. -/
structure Good (L A : List AirV) (k : Nat) : Prop where
  ck : checkI A = 0
  len : A.length ≤ k
  id : ∀ (i : Nat) (a : AirV), A[i]? = some a → ∃ (j : Nat) (y : AirV), j < k ∧ a.id = (j : Int) ∧ L[j]? = some y ∧ a.bad = (y.bad || others A i a A.length)
theorem checkI_iff (l : List AirV) : checkI l = 0 ↔ l.length ≤ 256 ∧ (∀ a ∈ l, a.off = false) ∧ ∀ (j : Nat) (a b : AirV), l[j]? = some a → l[j + 1]? = some b → a.id < b.id := by
  unfold checkI
  rw [← inc_iff]
  have e : l.any AirV.off = false ↔ ∀ a ∈ l, a.off = false := by rw [List.any_eq_false]; simp
  rw [← e]
  split
  · rename_i h; simp [h]
  · rename_i h; simp only [Int.reduceEq, false_iff]; exact h
end Go.Det.M11

/- Things of their own, by the document's reference. -/
namespace Go.Det.M11
open Go Go.Det Go.Proofs
set_option maxRecDepth 4000
set_option maxHeartbeats 4000000
set_option linter.unusedVariables false
set_option linter.unusedSimpArgs false
theorem E26 : ElemT Try.prog 26 5 1 1 (.int .u8 0) := ⟨by kernel_rfl, by kernel_rfl, by kernel_rfl, by kernel_rfl, by decide, by decide, rfl, rfl⟩
theorem E22 : ElemT Try.prog 22 28 8 80 (.agg airZero) := ⟨by kernel_rfl, by kernel_rfl, by kernel_rfl, by kernel_rfl, by decide, by decide, rfl, rfl⟩
theorem mine_sl {A H : DH} {z : Nat} {R : List (List DV)} {s : DV} {n : Nat} (h : Mine A H z R s) (hn : R.length = n) : ∃ p c ex, s = .sl p n c ex ∧ Sl H z R p := by
  subst hn; exact h.sl
theorem BOk.monoX {x : Nat → Prop} {H H' : DH} {p : Option (Nat × Nat × Nat)} {n c : Nat} {ex : Bool} (k : BOk H (.sl p n c ex) n) (ha : AboveX x H H') (hx : ∀ loc i z, p = some (loc, i, z) → ¬ x loc) : BOk H' (.sl p n c ex) n := by
  rcases k with k | ⟨loc, i, c', ex', ro, rs, h1, h2, h3, h4, h5⟩
  · exact .inl k
  · cases h1
    exact .inr ⟨loc, i, _, _, ro, rs, rfl, Nat.lt_of_lt_of_le h2 ha.le, (ha.same _ h2 (hx _ _ _ rfl)).trans h3, h4, h5⟩
/-- The rows of a thing's bytes. -/
theorem BOk.rows {H : DH} {p : Option (Nat × Nat × Nat)} {n c : Nat} {ex : Bool} (k : BOk H (.sl p n c ex) n) : ∃ R, Sl H 1 R p ∧ R.length = n ∧ R.all (fun r => r.length == 1 && r.all DV.one) = true := by
  rcases k with k | ⟨loc, i, c', ex', ro, rs, h1, h2, h3, h4, h5⟩
  · cases k.1; exact ⟨[], .nil rfl, rfl, rfl⟩
  · cases h1
    have e : ((rs.drop i).take n).length = n := by rw [List.length_take, List.length_drop]; omega
    exact ⟨(rs.drop i).take n, .at h2 h3 (by rw [e]; exact h4) (by rw [e]), e, h5⟩
end Go.Det.M11

/- What lies at a place, behind a name: so that a fact of another heap is told apart at once. -/
namespace Go.Det
set_option linter.unusedVariables false
structure ObjAt (H : DH) (l : Nat) (o : DObj) : Prop where
  h : H.obj l = some o
structure RowAt (rs : List (List DV)) (i : Nat) (r : List DV) : Prop where
  h : rs[i]? = some r
/-- A place that there is. -/
structure Lo (H : DH) (l : Nat) : Prop where
  h : l < H.next
theorem lo {H : DH} {l : Nat} (h : l < H.next) : Lo H l := ⟨h⟩
theorem Lo.new {H : DH} {l : Nat} {o : DObj} (h : Lo H l) : Lo (H.new o) l := ⟨Nat.lt_succ_of_lt h.h⟩
theorem Lo.set {H : DH} {l m : Nat} {o : Option DObj} (h : Lo H l) : Lo (H.set m o) l := ⟨h.h⟩
theorem Lo.self {H : DH} {o : DObj} : Lo (H.new o) H.next := ⟨Nat.lt_succ_self _⟩
theorem Lo.self1 {H : DH} {o o' : DObj} : Lo ((H.new o').new o) (H.next + 1) := ⟨Nat.lt_succ_self _⟩
theorem Lo.self2 {H : DH} {o o' o'' : DObj} : Lo (((H.new o'').new o').new o) (H.next + 2) := ⟨Nat.lt_succ_self _⟩
theorem Lo.above {H H' : DH} {l : Nat} (k : Above H H') (h : Lo H l) : Lo H' l := ⟨Nat.lt_of_lt_of_le h.h k.le⟩
theorem Lo.ne {H : DH} {l : Nat} (h : Lo H l) : l ≠ H.next := Nat.ne_of_lt h.h
theorem Lo.ne1 {H : DH} {l : Nat} (h : Lo H l) : l ≠ H.next + 1 := Nat.ne_of_lt (Nat.lt_succ_of_lt h.h)
theorem Lo.ne' {H : DH} {l : Nat} (h : Lo H l) : H.next ≠ l := h.ne.symm
theorem Lo.ne1' {H : DH} {l : Nat} (h : Lo H l) : H.next + 1 ≠ l := h.ne1.symm
theorem ne_add1 (n : Nat) : n ≠ n + 1 := by omega
theorem ne_add2 (n : Nat) : n ≠ n + 2 := by omega
theorem ne_add12 (n : Nat) : n + 1 ≠ n + 2 := by omega
theorem ne_add1' (n : Nat) : n + 1 ≠ n := by omega
theorem ne_add2' (n : Nat) : n + 2 ≠ n := by omega
theorem ne_add21 (n : Nat) : n + 2 ≠ n + 1 := by omega
theorem obj_skip_lo {H : DH} {l : Nat} {o : DObj} {x : Option DObj} (h : Lo H l) (k : H.obj l = x) : (H.new o).obj l = x := obj_skip h.ne k
section
variable {P : Program} {X : Ext} {H : DH}
theorem op_load_at {o : Oper} {t : TypeId} {a : Operand} {env : List DV} {K : DV → DH → Prop} {l i q : Nat} {ro : Bool} {sz : Nat} {rs : List (List DV)} {r : List DV} {v : DV} (ho : o.op = .load t a) (hp : evalO env a = some (.ptr (some (l, i, q)))) (hobj : H.obj l = some (.rows ro sz rs))
    (hr : rs[i]? = some r) (hv : partD P t r q = some v) (hk : K v H) : OpWp P X o env H K := op_at (opD_load ho hp hobj hr hv) hk
theorem op_store_at {o : Oper} {t : TypeId} {a x : Operand} {env : List DV} {K : DV → DH → Prop} {l i q : Nat} {v : DV} {n : Nat} {sz : Nat} {rs rs' : List (List DV)} (ho : o.op = .store t a x) (hp : evalO env a = some (.ptr (some (l, i, q)))) (hx : evalO env x = some v)
    (hobj : H.obj l = some (.rows false sz rs)) (hs : setRow rs i q v.cells = some rs') (hn : sizeT P t = some n) (hc : v.cells.length = n) (hk : K undefD (H.set l (some (.rows false sz rs')))) : OpWp P X o env H K := op_at (opD_store ho hp hx hn hc hobj hs) hk
theorem op_index_at {o : Oper} {t e : TypeId} {x ix : Operand} {env : List DV} {K : DV → DH → Prop} {l i z n c : Nat} {ex : Bool} {j : IntKind} {m : Int} (ho : o.op = .indexAddr t x ix) (hx : evalO env x = some (.sl (some (l, i, z)) n c ex)) (hix : evalO env ix = some (.int j m)) (hm : 0 ≤ m ∧ m < (n : Int))
    (hu : P.underlying t = some (.slice e)) (hs : sizeT P e = some z) (hk : K (.ptr (some (l, i + m.toNat, 0))) H) : OpWp P X o env H K := op_at (opD_index ho hx hix hu hs hm) hk
theorem drawc_read_at {all : Array Oper} {bef : Array Nat} {b i : Nat} {o : Oper} {r : List Oper} {st : DSt} {K : DSt → Prop} {t : TypeId} {a : Operand} {l j q : Nat} {ro : Bool} {sz : Nat} {rs : List (List DV)} {row : List DV} {v : DV} (ho : o.op = .load t a) (hw : Region.wanted o (dyield all st.env) = true) (hp : evalO st.env a = some (.ptr (some (l, j, q)))) (hobj : st.H.obj l = some (.rows ro sz rs))
    (hr : rs[j]? = some row) (hv : partD P t row q = some v) (hb : allBits b (bef.getD i 0) = true) (h : DrawC P X all bef b (i + 1) r ⟨putD st.env o.dst v, st.H⟩ K) : DrawC P X all bef b i (o :: r) st K :=
  drawc_read hw (by rw [ho]; rfl) (by rw [ho]; rfl) hb (opD_load ho hp hobj hr hv) h
/-- What is appended to nothing is one's own. -/
theorem op_append_fresh {st e : TypeId} {z by_ : Nat} {z0 : DV} {o : Oper} {x y : Operand} {xt : TypeId} (ho : o.op = .call ⟨.builtin .append, #[x, y], #[st, xt]⟩) {env : List DV} {K : DV → DH → Prop} {d : DV} (hx : evalO env x = some (.sl none 0 0 true)) (hy : evalO env y = some d)
    (E : ElemT P st e z by_ z0) {new : List (List DV)} (hnew : appendedD P e H (P.underlying xt) d = some new) (hall : new.all (fun r => r.length == z && r.all DV.one) = true) (hlen : new.length ≤ mostD)
    (hk : ∀ s' H', Mine H H' z new s' → Above H H' → (∀ l, leads s' l → H.next ≤ l) → K s' H') : OpWp P X o env H K := by
  obtain ⟨m, rfl⟩ : ∃ m, z = m + 1 := ⟨z - 1, by have := E.pos; omega⟩
  have hc : by_ ≤ 4096 ∧ z0.cells.length = m + 1 ∧ (new.all fun r => r.length == m + 1 && r.all DV.one) = true := ⟨E.le, E.len, hall⟩
  by_cases hn : new = []
  · subst hn
    refine op_at (v := .sl none 0 0 true) (H' := H) ?_ (hk _ _ (.nil rfl) (Above.refl H) (fun l hl => by obtain ⟨_, _, _, _, _, e⟩ := hl; cases e))
    simp only [opD, ho, mover, moveD, hx, hy, if_true]
    unfold appendD
    simp only [E.u, E.s, E.b, E.zr, hnew]
    rw [if_pos hc, if_pos trivial]
  · refine op_at (v := .sl (some (H.next, 0, m + 1)) new.length new.length false) (H' := H.new (.rows false (m + 1) new)) ?_ (hk _ _ (.at (Nat.le_refl _) (Nat.lt_succ_self _) (obj_here rfl)) ((Above.refl H).new _) (fun l hl => leads_at hl (Nat.le_refl _)))
    simp only [opD, ho, mover, moveD, hx, hy, if_true]
    unfold appendD
    simp only [E.u, E.s, E.b, E.zr, hnew]
    rw [if_pos hc, if_neg hn, if_pos hlen]
/-- An operand of an index, for the code's own use. -/
structure IdxAt (v : DV) (l i z n c : Nat) (ex : Bool) : Prop where
  h : v = .sl (some (l, i, z)) n c ex
end
end Go.Det

/- Nothing appended. -/
namespace Go.Det
set_option linter.unusedVariables false
set_option linter.unusedSimpArgs false
section
variable {P : Program} {X : Ext}
/-- Where nothing is appended, a slice is as it was. -/
theorem op_append_none {st e : TypeId} {z by_ : Nat} {z0 : DV} {o : Oper} {x y : Operand} {xt : TypeId} (ho : o.op = .call ⟨.builtin .append, #[x, y], #[st, xt]⟩) {env : List DV} {H : DH} {K : DV → DH → Prop} {d : DV} {l i n c : Nat} {ex : Bool} (hx : evalO env x = some (.sl (some (l, i, z)) n c ex)) (hy : evalO env y = some d)
    (E : ElemT P st e z by_ z0) (hnew : appendedD P e H (P.underlying xt) d = some []) (hk : K (.sl (some (l, i, z)) n c ex) H) : OpWp P X o env H K := by
  obtain ⟨m, rfl⟩ : ∃ m, z = m + 1 := ⟨z - 1, by have := E.pos; omega⟩
  have hc : by_ ≤ 4096 ∧ z0.cells.length = m + 1 ∧ (([] : List (List DV)).all fun r => r.length == m + 1 && r.all DV.one) = true := ⟨E.le, E.len, rfl⟩
  refine op_at ?_ hk
  simp only [opD, ho, mover, moveD, hx, hy, if_true]
  unfold appendD
  simp only [E.u, E.s, E.b, E.zr, hnew]
  rw [if_pos hc, if_neg (by simp), if_pos trivial]
/-- A slice's rows cleared: what lies ahead of it stays. -/
theorem op_clear {t e : TypeId} {z by_ : Nat} {z0 : DV} {o : Oper} {x : Operand} (ho : o.op = .call ⟨.builtin .clear, #[x], #[t]⟩) {env : List DV} {H : DH} {K : DV → DH → Prop} {l i n c : Nat} {ex : Bool} (hx : evalO env x = some (.sl (some (l, i, z)) n c ex))
    (E : ElemT P t e z by_ z0) {rs : List (List DV)} (hobj : H.obj l = some (.rows false z rs)) (hin : i + n ≤ rs.length)
    (hk : ∀ H' rs', H'.obj l = some (.rows false z rs') → rs'.length = rs.length → (∀ t, t < i → rs'[t]? = rs[t]?) → AboveX (fun m => m = l) H H' → K undefD H') : OpWp P X o env H K := by
  obtain ⟨m, rfl⟩ : ∃ m, z = m + 1 := ⟨z - 1, by have := E.pos; omega⟩
  cases n with
  | zero =>
    refine op_at (v := undefD) (H' := H) ?_ (hk H rs hobj rfl (fun _ _ => rfl) (.refl H))
    simp only [opD, ho, mover, moveD, hx, if_true, clearD, E.u]
    rfl
  | succ n =>
    have hz : (zerosD z0.cells (n + 1)).length = n + 1 := by simp [zerosD]
    refine op_at (v := undefD) (H' := H.set l (some (.rows false (m + 1) (setRows rs i (zerosD z0.cells (n + 1)))))) ?_ (hk _ (setRows rs i (zerosD z0.cells (n + 1))) obj_set ?_ ?_ (.set _ _ _ _ rfl))
    · simp only [opD, ho, mover, moveD, hx, if_true, clearD, E.u, hobj, E.zr]
      rw [if_pos ⟨E.len, E.one, hin, E.s⟩]
      rfl
    · unfold setRows
      rw [List.length_append, List.length_append, List.length_take, List.length_drop, hz]
      omega
    · intro t ht
      unfold setRows
      rw [List.getElem?_append_left (by rw [List.length_take]; omega), List.getElem?_take, if_pos ht]
/-- A slice from a place on. -/
theorem opD_slice_lo {cf : CallF} {o : Oper} {t e : TypeId} {x lo : Operand} (ho : o.op = .slice t x (some lo) none none) {env : List DV} {H : DH} {l i z n c : Nat} {ex : Bool} {j : IntKind} {m : Int} (hx : evalO env x = some (.sl (some (l, i, z)) n c ex)) (hlo : evalO env lo = some (.int j m))
    (hu : P.underlying t = some (.slice e)) (hs : sizeT P e = some z) (hm : 0 ≤ m ∧ m ≤ (n : Int)) : opD P cf o env H = some (.sl (some (l, i + m.toNat, z)) (n - m.toNat) (c - m.toNat) ex, H) := by
  have hb : boundD n (.int j m) = some m.toNat := by simp only [boundD]; rw [if_pos hm]
  have hbd : boundsD n c (some (.int j m)) none none = some (m.toNat, n, c) := by
    rw [show boundsD n c (some (.int j m)) none none = (match boundD n (.int j m) with | none => none | some l => some (l, n, c)) from rfl, hb]
  simp only [opD, ho, mover, reader, pureD, hx, evOpt, hlo, Option.map_some, sliceD, hu, rowSz, hs, hbd]
  simp
/-- A slice up to a place. -/
theorem opD_slice_hi {cf : CallF} {o : Oper} {t e : TypeId} {x hi : Operand} (ho : o.op = .slice t x none (some hi) none) {env : List DV} {H : DH} {l i z n c : Nat} {ex : Bool} {j : IntKind} {m : Int} (hx : evalO env x = some (.sl (some (l, i, z)) n c ex)) (hhi : evalO env hi = some (.int j m))
    (hu : P.underlying t = some (.slice e)) (hs : sizeT P e = some z) (hm : 0 ≤ m ∧ m ≤ (c : Int)) : opD P cf o env H = some (.sl (some (l, i, z)) m.toNat c ex, H) := by
  have hb : boundD c (.int j m) = some m.toNat := by simp only [boundD]; rw [if_pos hm]
  have hbd : boundsD n c none (some (.int j m)) none = some (0, m.toNat, c) := by
    rw [show boundsD n c none (some (.int j m)) none = (match boundD c (.int j m) with | none => none | some h => some (0, h, c)) from rfl, hb]
  simp only [opD, ho, mover, reader, pureD, hx, evOpt, hhi, Option.map_some, sliceD, hu, rowSz, hs, hbd]
  simp
end
end Go.Det
