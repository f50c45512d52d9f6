/- What may be on a channel: tables for the functions that tell it. -/
import Derived.Test.YtphnddoneocfhaaD26
import Derived.Test.YtphnddoneocfhaaRows
namespace Go.Det.M11
open Go Go.Det Go.Proofs
set_option maxRecDepth 4000
set_option maxHeartbeats 2000000
set_option linter.unusedVariables false
set_option linter.unusedSimpArgs false

abbrev G := List DV → DH → Option (DV × DH)
abbrev H0 : DH := ⟨0, fun _ => none⟩

def L : List FuncId := [3, 4, 15, 17, 19, 51, 64, 48, 72, 83, 98, 84, 49, 50, 73, 18, 16, 20, 8, 9, 10, 30, 31, 33, 60, 61, 57, 78, 32, 58, 79, 34, 59, 35, 36, 62, 63, 65, 37, 66, 67, 80]
theorem mixed : Try.prog.follows .mixedOrders = true := by kernel_rfl
theorem okL : L.all (okB Try.prog) = true := by kernel_rfl
def X0 : Ext := Xof L []
theorem ok0 : ProgOk Try.prog X0 := progOk_of mixed okL (by simp)

/-- The chapter's example. -/
def gLive : G := fun args H => match args with
  | [] => some (.bool true, H)
  | _ => none
theorem live_run : (match callD Try.prog X0 2000 15 [] H0 with | some (.bool true, _) => true | _ => false) = true := by kernel_rfl
theorem live_ok : ExtSound Try.prog gLive 15 := ext_closed ok0 Try.func15 rfl rfl (by
  intro args H r H' h
  unfold gLive at h
  split at h <;> cases h
  refine ⟨rfl, rfl, rfl, 2000, ?_⟩
  have := live_run
  split at this
  · rename_i H1 e
    exact ⟨H1, e⟩
  · cases this)

/-- May a number be a time? -/
def okT (x : Int) : Bool := decide (-1152921504606846976 ≤ x) && decide (x ≤ 1152921504606846976)
theorem wrap1 : IntKind.i64.wrap (0 + 1) = 1 := by decide

theorem may1 (H : DH) (l : Nat) (ro : Bool) (x : Int) (ho : H.obj l = some (.rows ro 1 [[.int .i64 x]])) : CallWp Try.prog X0 72 [.sl (some (l, 0, 1)) 1 1 true] H (fun r H' => r = .bool (okT x) ∧ H' = H) := by
  refine enter rfl Try.func72 rfl Try.ntmps72 rfl ?_
  dsimp only [List.cons_append, List.nil_append, List.length_cons, List.length_nil, List.replicate_succ, List.replicate_zero, Nat.reduceAdd, Nat.reduceSub]
  repeat' (first
    | refine dwp_seq ?_
    | refine dwp_region ?_
    | refine ops_nil ?_
    | refine dwp_round ?_
    | (refine ops_plain rfl ?_; (first | (refine op_call rfl rfl rfl ?_; refine enter rfl Try.func83 rfl Try.ntmps83 rfl ?_; dsimp only [List.cons_append, List.nil_append, List.length_cons, List.length_nil, List.replicate_succ, List.replicate_zero, Nat.reduceAdd, Nat.reduceSub]) | (refine op_call rfl rfl rfl ?_; refine enter rfl Try.func98 rfl Try.ntmps98 rfl ?_; dsimp only [List.cons_append, List.nil_append, List.length_cons, List.length_nil, List.replicate_succ, List.replicate_zero, Nat.reduceAdd, Nat.reduceSub]) | (refine op_call rfl rfl rfl ?_; refine enter rfl Try.func84 rfl Try.ntmps84 rfl ?_; dsimp only [List.cons_append, List.nil_append, List.length_cons, List.length_nil, List.replicate_succ, List.replicate_zero, Nat.reduceAdd, Nat.reduceSub]) | refine op_pick_t rfl rfl (by first | assumption | with_reducible rfl | decide) rfl ?_ | refine op_pick_f rfl rfl (by first | assumption | with_reducible rfl | decide) rfl ?_ | refine op_at (opD_load rfl rfl (by repeat (first | exact obj_here rfl | exact obj_set | assumption | refine obj_skip (by (try simp only [DH.new_next, DH.set_next]); omega) ?_ | refine obj_past (by (try simp only [DH.new_next, DH.set_next]); omega) ?_)) rfl rfl) ?_ | refine op_at (opD_store rfl rfl rfl rfl rfl (by repeat (first | exact obj_here rfl | exact obj_set | assumption | refine obj_skip (by (try simp only [DH.new_next, DH.set_next]); omega) ?_ | refine obj_past (by (try simp only [DH.new_next, DH.set_next]); omega) ?_)) rfl) ?_ | refine op_at (opD_eqb rfl rfl rfl rfl) ?_ | refine op_at (opD_neqb rfl rfl rfl rfl) ?_ | refine op_at rfl ?_); dsimp only [putD, DV.cells, DH.new_next, DH.set_next, List.length_cons, List.length_nil, Nat.reduceAdd, List.set_cons_zero, List.set_cons_succ, getD_zero, getD_succ, fieldAt_zero, fieldAt_succ, thenD, blockD, retR])
    | (refine ops_on rfl rfl (by first | assumption | with_reducible rfl | decide) ?_; (first | (refine op_call rfl rfl rfl ?_; refine enter rfl Try.func83 rfl Try.ntmps83 rfl ?_; dsimp only [List.cons_append, List.nil_append, List.length_cons, List.length_nil, List.replicate_succ, List.replicate_zero, Nat.reduceAdd, Nat.reduceSub]) | (refine op_call rfl rfl rfl ?_; refine enter rfl Try.func98 rfl Try.ntmps98 rfl ?_; dsimp only [List.cons_append, List.nil_append, List.length_cons, List.length_nil, List.replicate_succ, List.replicate_zero, Nat.reduceAdd, Nat.reduceSub]) | (refine op_call rfl rfl rfl ?_; refine enter rfl Try.func84 rfl Try.ntmps84 rfl ?_; dsimp only [List.cons_append, List.nil_append, List.length_cons, List.length_nil, List.replicate_succ, List.replicate_zero, Nat.reduceAdd, Nat.reduceSub]) | refine op_pick_t rfl rfl (by first | assumption | with_reducible rfl | decide) rfl ?_ | refine op_pick_f rfl rfl (by first | assumption | with_reducible rfl | decide) rfl ?_ | refine op_at (opD_load rfl rfl (by repeat (first | exact obj_here rfl | exact obj_set | assumption | refine obj_skip (by (try simp only [DH.new_next, DH.set_next]); omega) ?_ | refine obj_past (by (try simp only [DH.new_next, DH.set_next]); omega) ?_)) rfl rfl) ?_ | refine op_at (opD_store rfl rfl rfl rfl rfl (by repeat (first | exact obj_here rfl | exact obj_set | assumption | refine obj_skip (by (try simp only [DH.new_next, DH.set_next]); omega) ?_ | refine obj_past (by (try simp only [DH.new_next, DH.set_next]); omega) ?_)) rfl) ?_ | refine op_at (opD_eqb rfl rfl rfl rfl) ?_ | refine op_at (opD_neqb rfl rfl rfl rfl) ?_ | refine op_at rfl ?_); dsimp only [putD, DV.cells, DH.new_next, DH.set_next, List.length_cons, List.length_nil, Nat.reduceAdd, List.set_cons_zero, List.set_cons_succ, getD_zero, getD_succ, fieldAt_zero, fieldAt_succ, thenD, blockD, retR])
    | (refine ops_off1 rfl rfl (by first | assumption | with_reducible rfl | decide) ?_; dsimp only [putD, DV.cells, DH.new_next, DH.set_next, List.length_cons, List.length_nil, Nat.reduceAdd, List.set_cons_zero, List.set_cons_succ, getD_zero, getD_succ, fieldAt_zero, fieldAt_succ, thenD, blockD, retR])
    | (refine ops_off0 rfl rfl (by first | assumption | with_reducible rfl | decide) ?_; dsimp only [putD, DV.cells, DH.new_next, DH.set_next, List.length_cons, List.length_nil, Nat.reduceAdd, List.set_cons_zero, List.set_cons_succ, getD_zero, getD_succ, fieldAt_zero, fieldAt_succ, thenD, blockD, retR])
    | (refine ops_split1 rfl rfl ?_ ?_ <;> intro hb)
    | (refine ops_split0 rfl rfl ?_ ?_ <;> intro hb)
    | ((first | (refine op_call rfl rfl rfl ?_; refine enter rfl Try.func83 rfl Try.ntmps83 rfl ?_; dsimp only [List.cons_append, List.nil_append, List.length_cons, List.length_nil, List.replicate_succ, List.replicate_zero, Nat.reduceAdd, Nat.reduceSub]) | (refine op_call rfl rfl rfl ?_; refine enter rfl Try.func98 rfl Try.ntmps98 rfl ?_; dsimp only [List.cons_append, List.nil_append, List.length_cons, List.length_nil, List.replicate_succ, List.replicate_zero, Nat.reduceAdd, Nat.reduceSub]) | (refine op_call rfl rfl rfl ?_; refine enter rfl Try.func84 rfl Try.ntmps84 rfl ?_; dsimp only [List.cons_append, List.nil_append, List.length_cons, List.length_nil, List.replicate_succ, List.replicate_zero, Nat.reduceAdd, Nat.reduceSub]) | refine op_pick_t rfl rfl (by first | assumption | with_reducible rfl | decide) rfl ?_ | refine op_pick_f rfl rfl (by first | assumption | with_reducible rfl | decide) rfl ?_ | refine op_at (opD_load rfl rfl (by repeat (first | exact obj_here rfl | exact obj_set | assumption | refine obj_skip (by (try simp only [DH.new_next, DH.set_next]); omega) ?_ | refine obj_past (by (try simp only [DH.new_next, DH.set_next]); omega) ?_)) rfl rfl) ?_ | refine op_at (opD_store rfl rfl rfl rfl rfl (by repeat (first | exact obj_here rfl | exact obj_set | assumption | refine obj_skip (by (try simp only [DH.new_next, DH.set_next]); omega) ?_ | refine obj_past (by (try simp only [DH.new_next, DH.set_next]); omega) ?_)) rfl) ?_ | refine op_at (opD_eqb rfl rfl rfl rfl) ?_ | refine op_at (opD_neqb rfl rfl rfl rfl) ?_ | refine op_at rfl ?_); dsimp only [putD, DV.cells, DH.new_next, DH.set_next, List.length_cons, List.length_nil, Nat.reduceAdd, List.set_cons_zero, List.set_cons_succ, getD_zero, getD_succ, fieldAt_zero, fieldAt_succ, thenD, blockD, retR])
    | refine dwp_drawc _ rfl ?_
    | refine drawc_nil ?_
    | (refine drawc_pure (by first | exact wanted_plain rfl | exact wanted_on rfl rfl (by first | assumption | with_reducible rfl | decide)) rfl rfl rfl ?_; dsimp only [putD, DV.cells, DH.new_next, DH.set_next, List.length_cons, List.length_nil, Nat.reduceAdd, List.set_cons_zero, List.set_cons_succ, getD_zero, getD_succ, fieldAt_zero, fieldAt_succ, thenD, blockD, retR])
    | (refine drawc_read (by first | exact wanted_plain rfl | exact wanted_on rfl rfl (by first | assumption | with_reducible rfl | decide)) rfl rfl (by kernel_rfl) (opD_load rfl rfl (by repeat (first | exact obj_here rfl | exact obj_set | assumption | refine obj_skip (by (try simp only [DH.new_next, DH.set_next]); omega) ?_ | refine obj_past (by (try simp only [DH.new_next, DH.set_next]); omega) ?_)) rfl rfl) ?_; dsimp only [putD, DV.cells, DH.new_next, DH.set_next, List.length_cons, List.length_nil, Nat.reduceAdd, List.set_cons_zero, List.set_cons_succ, getD_zero, getD_succ, fieldAt_zero, fieldAt_succ, thenD, blockD, retR])
    | (refine drawc_read (by first | exact wanted_plain rfl | exact wanted_on rfl rfl (by first | assumption | with_reducible rfl | decide)) rfl rfl (by kernel_rfl) rfl ?_; dsimp only [putD, DV.cells, DH.new_next, DH.set_next, List.length_cons, List.length_nil, Nat.reduceAdd, List.set_cons_zero, List.set_cons_succ, getD_zero, getD_succ, fieldAt_zero, fieldAt_succ, thenD, blockD, retR])
    | (refine drawc_same (by first | exact wanted_plain rfl | exact wanted_on rfl rfl (by first | assumption | with_reducible rfl | decide)) rfl (by kernel_rfl) ?_; (first | (refine op_call rfl rfl rfl ?_; refine enter rfl Try.func83 rfl Try.ntmps83 rfl ?_; dsimp only [List.cons_append, List.nil_append, List.length_cons, List.length_nil, List.replicate_succ, List.replicate_zero, Nat.reduceAdd, Nat.reduceSub]; refine ⟨rfl, ?_⟩) | (refine op_call rfl rfl rfl ?_; refine enter rfl Try.func98 rfl Try.ntmps98 rfl ?_; dsimp only [List.cons_append, List.nil_append, List.length_cons, List.length_nil, List.replicate_succ, List.replicate_zero, Nat.reduceAdd, Nat.reduceSub]; refine ⟨rfl, ?_⟩) | (refine op_call rfl rfl rfl ?_; refine enter rfl Try.func84 rfl Try.ntmps84 rfl ?_; dsimp only [List.cons_append, List.nil_append, List.length_cons, List.length_nil, List.replicate_succ, List.replicate_zero, Nat.reduceAdd, Nat.reduceSub]; refine ⟨rfl, ?_⟩)); dsimp only [putD, DV.cells, DH.new_next, DH.set_next, List.length_cons, List.length_nil, Nat.reduceAdd, List.set_cons_zero, List.set_cons_succ, getD_zero, getD_succ, fieldAt_zero, fieldAt_succ, thenD, blockD, retR])
    | (refine drawc_sync (by first | exact wanted_plain rfl | exact wanted_on rfl rfl (by first | assumption | with_reducible rfl | decide)) rfl (by kernel_rfl) ?_; (first | (refine op_call rfl rfl rfl ?_; refine enter rfl Try.func83 rfl Try.ntmps83 rfl ?_; dsimp only [List.cons_append, List.nil_append, List.length_cons, List.length_nil, List.replicate_succ, List.replicate_zero, Nat.reduceAdd, Nat.reduceSub]) | (refine op_call rfl rfl rfl ?_; refine enter rfl Try.func98 rfl Try.ntmps98 rfl ?_; dsimp only [List.cons_append, List.nil_append, List.length_cons, List.length_nil, List.replicate_succ, List.replicate_zero, Nat.reduceAdd, Nat.reduceSub]) | (refine op_call rfl rfl rfl ?_; refine enter rfl Try.func84 rfl Try.ntmps84 rfl ?_; dsimp only [List.cons_append, List.nil_append, List.length_cons, List.length_nil, List.replicate_succ, List.replicate_zero, Nat.reduceAdd, Nat.reduceSub]) | refine op_pick_t rfl rfl (by first | assumption | with_reducible rfl | decide) rfl ?_ | refine op_pick_f rfl rfl (by first | assumption | with_reducible rfl | decide) rfl ?_ | refine op_at (opD_load rfl rfl (by repeat (first | exact obj_here rfl | exact obj_set | assumption | refine obj_skip (by (try simp only [DH.new_next, DH.set_next]); omega) ?_ | refine obj_past (by (try simp only [DH.new_next, DH.set_next]); omega) ?_)) rfl rfl) ?_ | refine op_at (opD_store rfl rfl rfl rfl rfl (by repeat (first | exact obj_here rfl | exact obj_set | assumption | refine obj_skip (by (try simp only [DH.new_next, DH.set_next]); omega) ?_ | refine obj_past (by (try simp only [DH.new_next, DH.set_next]); omega) ?_)) rfl) ?_ | refine op_at (opD_eqb rfl rfl rfl rfl) ?_ | refine op_at (opD_neqb rfl rfl rfl rfl) ?_ | refine op_at rfl ?_); dsimp only [putD, DV.cells, DH.new_next, DH.set_next, List.length_cons, List.length_nil, Nat.reduceAdd, List.set_cons_zero, List.set_cons_succ, getD_zero, getD_succ, fieldAt_zero, fieldAt_succ, thenD, blockD, retR])
    | (refine drawc_off (by first | exact wanted_off1 rfl rfl (by first | assumption | with_reducible rfl | decide) | exact wanted_off0 rfl rfl (by first | assumption | with_reducible rfl | decide)) ?_; dsimp only [putD, DV.cells, DH.new_next, DH.set_next, List.length_cons, List.length_nil, Nat.reduceAdd, List.set_cons_zero, List.set_cons_succ, getD_zero, getD_succ, fieldAt_zero, fieldAt_succ, thenD, blockD, retR])
    | refine dwp_cond_t rfl (by first | assumption | with_reducible rfl | decide) ?_
    | refine dwp_cond_f rfl (by first | assumption | with_reducible rfl | decide) ?_
    | (refine dwp_cond rfl ?_ ?_ <;> intro hb)
    | refine dwp_block ?_
    | refine dwp_skip ?_
    | refine dwp_ret ?_
    | refine dwp_exit ?_
    | dsimp only [thenD, blockD, retR]
    | (refine ⟨_, rfl, ?_⟩; try dsimp only)
    | fail)
  all_goals refine ⟨?_, rfl⟩
  all_goals dsimp only [getD_zero, getD_succ]
  all_goals refine congrArg DV.bool ?_
  all_goals rw [Bool.eq_iff_iff]
  all_goals simp only [okT, wrap1, Bool.and_eq_true, decide_eq_true_eq, Bool.not_eq_true', decide_eq_false_iff_not] at *
  all_goals omega

theorem may2 (H : DH) (l : Nat) (ro : Bool) (x y : Int) (ho : H.obj l = some (.rows ro 1 [[.int .i64 x], [.int .i64 y]])) : CallWp Try.prog X0 72 [.sl (some (l, 0, 1)) 2 2 true] H (fun r H' => r = .bool (okT x && okT y) ∧ H' = H) := by
  refine enter rfl Try.func72 rfl Try.ntmps72 rfl ?_
  dsimp only [List.cons_append, List.nil_append, List.length_cons, List.length_nil, List.replicate_succ, List.replicate_zero, Nat.reduceAdd, Nat.reduceSub]
  repeat' (first
    | refine dwp_seq ?_
    | refine dwp_region ?_
    | refine ops_nil ?_
    | refine dwp_round ?_
    | (refine ops_plain rfl ?_; (first | (refine op_call rfl rfl rfl ?_; refine enter rfl Try.func83 rfl Try.ntmps83 rfl ?_; dsimp only [List.cons_append, List.nil_append, List.length_cons, List.length_nil, List.replicate_succ, List.replicate_zero, Nat.reduceAdd, Nat.reduceSub]) | (refine op_call rfl rfl rfl ?_; refine enter rfl Try.func98 rfl Try.ntmps98 rfl ?_; dsimp only [List.cons_append, List.nil_append, List.length_cons, List.length_nil, List.replicate_succ, List.replicate_zero, Nat.reduceAdd, Nat.reduceSub]) | (refine op_call rfl rfl rfl ?_; refine enter rfl Try.func84 rfl Try.ntmps84 rfl ?_; dsimp only [List.cons_append, List.nil_append, List.length_cons, List.length_nil, List.replicate_succ, List.replicate_zero, Nat.reduceAdd, Nat.reduceSub]) | refine op_pick_t rfl rfl (by first | assumption | with_reducible rfl | decide) rfl ?_ | refine op_pick_f rfl rfl (by first | assumption | with_reducible rfl | decide) rfl ?_ | refine op_at (opD_load rfl rfl (by repeat (first | exact obj_here rfl | exact obj_set | assumption | refine obj_skip (by (try simp only [DH.new_next, DH.set_next]); omega) ?_ | refine obj_past (by (try simp only [DH.new_next, DH.set_next]); omega) ?_)) rfl rfl) ?_ | refine op_at (opD_store rfl rfl rfl rfl rfl (by repeat (first | exact obj_here rfl | exact obj_set | assumption | refine obj_skip (by (try simp only [DH.new_next, DH.set_next]); omega) ?_ | refine obj_past (by (try simp only [DH.new_next, DH.set_next]); omega) ?_)) rfl) ?_ | refine op_at (opD_eqb rfl rfl rfl rfl) ?_ | refine op_at (opD_neqb rfl rfl rfl rfl) ?_ | refine op_at rfl ?_); dsimp only [putD, DV.cells, DH.new_next, DH.set_next, List.length_cons, List.length_nil, Nat.reduceAdd, List.set_cons_zero, List.set_cons_succ, getD_zero, getD_succ, fieldAt_zero, fieldAt_succ, thenD, blockD, retR])
    | (refine ops_on rfl rfl (by first | assumption | with_reducible rfl | decide) ?_; (first | (refine op_call rfl rfl rfl ?_; refine enter rfl Try.func83 rfl Try.ntmps83 rfl ?_; dsimp only [List.cons_append, List.nil_append, List.length_cons, List.length_nil, List.replicate_succ, List.replicate_zero, Nat.reduceAdd, Nat.reduceSub]) | (refine op_call rfl rfl rfl ?_; refine enter rfl Try.func98 rfl Try.ntmps98 rfl ?_; dsimp only [List.cons_append, List.nil_append, List.length_cons, List.length_nil, List.replicate_succ, List.replicate_zero, Nat.reduceAdd, Nat.reduceSub]) | (refine op_call rfl rfl rfl ?_; refine enter rfl Try.func84 rfl Try.ntmps84 rfl ?_; dsimp only [List.cons_append, List.nil_append, List.length_cons, List.length_nil, List.replicate_succ, List.replicate_zero, Nat.reduceAdd, Nat.reduceSub]) | refine op_pick_t rfl rfl (by first | assumption | with_reducible rfl | decide) rfl ?_ | refine op_pick_f rfl rfl (by first | assumption | with_reducible rfl | decide) rfl ?_ | refine op_at (opD_load rfl rfl (by repeat (first | exact obj_here rfl | exact obj_set | assumption | refine obj_skip (by (try simp only [DH.new_next, DH.set_next]); omega) ?_ | refine obj_past (by (try simp only [DH.new_next, DH.set_next]); omega) ?_)) rfl rfl) ?_ | refine op_at (opD_store rfl rfl rfl rfl rfl (by repeat (first | exact obj_here rfl | exact obj_set | assumption | refine obj_skip (by (try simp only [DH.new_next, DH.set_next]); omega) ?_ | refine obj_past (by (try simp only [DH.new_next, DH.set_next]); omega) ?_)) rfl) ?_ | refine op_at (opD_eqb rfl rfl rfl rfl) ?_ | refine op_at (opD_neqb rfl rfl rfl rfl) ?_ | refine op_at rfl ?_); dsimp only [putD, DV.cells, DH.new_next, DH.set_next, List.length_cons, List.length_nil, Nat.reduceAdd, List.set_cons_zero, List.set_cons_succ, getD_zero, getD_succ, fieldAt_zero, fieldAt_succ, thenD, blockD, retR])
    | (refine ops_off1 rfl rfl (by first | assumption | with_reducible rfl | decide) ?_; dsimp only [putD, DV.cells, DH.new_next, DH.set_next, List.length_cons, List.length_nil, Nat.reduceAdd, List.set_cons_zero, List.set_cons_succ, getD_zero, getD_succ, fieldAt_zero, fieldAt_succ, thenD, blockD, retR])
    | (refine ops_off0 rfl rfl (by first | assumption | with_reducible rfl | decide) ?_; dsimp only [putD, DV.cells, DH.new_next, DH.set_next, List.length_cons, List.length_nil, Nat.reduceAdd, List.set_cons_zero, List.set_cons_succ, getD_zero, getD_succ, fieldAt_zero, fieldAt_succ, thenD, blockD, retR])
    | (refine ops_split1 rfl rfl ?_ ?_ <;> intro hb)
    | (refine ops_split0 rfl rfl ?_ ?_ <;> intro hb)
    | ((first | (refine op_call rfl rfl rfl ?_; refine enter rfl Try.func83 rfl Try.ntmps83 rfl ?_; dsimp only [List.cons_append, List.nil_append, List.length_cons, List.length_nil, List.replicate_succ, List.replicate_zero, Nat.reduceAdd, Nat.reduceSub]) | (refine op_call rfl rfl rfl ?_; refine enter rfl Try.func98 rfl Try.ntmps98 rfl ?_; dsimp only [List.cons_append, List.nil_append, List.length_cons, List.length_nil, List.replicate_succ, List.replicate_zero, Nat.reduceAdd, Nat.reduceSub]) | (refine op_call rfl rfl rfl ?_; refine enter rfl Try.func84 rfl Try.ntmps84 rfl ?_; dsimp only [List.cons_append, List.nil_append, List.length_cons, List.length_nil, List.replicate_succ, List.replicate_zero, Nat.reduceAdd, Nat.reduceSub]) | refine op_pick_t rfl rfl (by first | assumption | with_reducible rfl | decide) rfl ?_ | refine op_pick_f rfl rfl (by first | assumption | with_reducible rfl | decide) rfl ?_ | refine op_at (opD_load rfl rfl (by repeat (first | exact obj_here rfl | exact obj_set | assumption | refine obj_skip (by (try simp only [DH.new_next, DH.set_next]); omega) ?_ | refine obj_past (by (try simp only [DH.new_next, DH.set_next]); omega) ?_)) rfl rfl) ?_ | refine op_at (opD_store rfl rfl rfl rfl rfl (by repeat (first | exact obj_here rfl | exact obj_set | assumption | refine obj_skip (by (try simp only [DH.new_next, DH.set_next]); omega) ?_ | refine obj_past (by (try simp only [DH.new_next, DH.set_next]); omega) ?_)) rfl) ?_ | refine op_at (opD_eqb rfl rfl rfl rfl) ?_ | refine op_at (opD_neqb rfl rfl rfl rfl) ?_ | refine op_at rfl ?_); dsimp only [putD, DV.cells, DH.new_next, DH.set_next, List.length_cons, List.length_nil, Nat.reduceAdd, List.set_cons_zero, List.set_cons_succ, getD_zero, getD_succ, fieldAt_zero, fieldAt_succ, thenD, blockD, retR])
    | refine dwp_drawc _ rfl ?_
    | refine drawc_nil ?_
    | (refine drawc_pure (by first | exact wanted_plain rfl | exact wanted_on rfl rfl (by first | assumption | with_reducible rfl | decide)) rfl rfl rfl ?_; dsimp only [putD, DV.cells, DH.new_next, DH.set_next, List.length_cons, List.length_nil, Nat.reduceAdd, List.set_cons_zero, List.set_cons_succ, getD_zero, getD_succ, fieldAt_zero, fieldAt_succ, thenD, blockD, retR])
    | (refine drawc_read (by first | exact wanted_plain rfl | exact wanted_on rfl rfl (by first | assumption | with_reducible rfl | decide)) rfl rfl (by kernel_rfl) (opD_load rfl rfl (by repeat (first | exact obj_here rfl | exact obj_set | assumption | refine obj_skip (by (try simp only [DH.new_next, DH.set_next]); omega) ?_ | refine obj_past (by (try simp only [DH.new_next, DH.set_next]); omega) ?_)) rfl rfl) ?_; dsimp only [putD, DV.cells, DH.new_next, DH.set_next, List.length_cons, List.length_nil, Nat.reduceAdd, List.set_cons_zero, List.set_cons_succ, getD_zero, getD_succ, fieldAt_zero, fieldAt_succ, thenD, blockD, retR])
    | (refine drawc_read (by first | exact wanted_plain rfl | exact wanted_on rfl rfl (by first | assumption | with_reducible rfl | decide)) rfl rfl (by kernel_rfl) rfl ?_; dsimp only [putD, DV.cells, DH.new_next, DH.set_next, List.length_cons, List.length_nil, Nat.reduceAdd, List.set_cons_zero, List.set_cons_succ, getD_zero, getD_succ, fieldAt_zero, fieldAt_succ, thenD, blockD, retR])
    | (refine drawc_same (by first | exact wanted_plain rfl | exact wanted_on rfl rfl (by first | assumption | with_reducible rfl | decide)) rfl (by kernel_rfl) ?_; (first | (refine op_call rfl rfl rfl ?_; refine enter rfl Try.func83 rfl Try.ntmps83 rfl ?_; dsimp only [List.cons_append, List.nil_append, List.length_cons, List.length_nil, List.replicate_succ, List.replicate_zero, Nat.reduceAdd, Nat.reduceSub]; refine ⟨rfl, ?_⟩) | (refine op_call rfl rfl rfl ?_; refine enter rfl Try.func98 rfl Try.ntmps98 rfl ?_; dsimp only [List.cons_append, List.nil_append, List.length_cons, List.length_nil, List.replicate_succ, List.replicate_zero, Nat.reduceAdd, Nat.reduceSub]; refine ⟨rfl, ?_⟩) | (refine op_call rfl rfl rfl ?_; refine enter rfl Try.func84 rfl Try.ntmps84 rfl ?_; dsimp only [List.cons_append, List.nil_append, List.length_cons, List.length_nil, List.replicate_succ, List.replicate_zero, Nat.reduceAdd, Nat.reduceSub]; refine ⟨rfl, ?_⟩)); dsimp only [putD, DV.cells, DH.new_next, DH.set_next, List.length_cons, List.length_nil, Nat.reduceAdd, List.set_cons_zero, List.set_cons_succ, getD_zero, getD_succ, fieldAt_zero, fieldAt_succ, thenD, blockD, retR])
    | (refine drawc_sync (by first | exact wanted_plain rfl | exact wanted_on rfl rfl (by first | assumption | with_reducible rfl | decide)) rfl (by kernel_rfl) ?_; (first | (refine op_call rfl rfl rfl ?_; refine enter rfl Try.func83 rfl Try.ntmps83 rfl ?_; dsimp only [List.cons_append, List.nil_append, List.length_cons, List.length_nil, List.replicate_succ, List.replicate_zero, Nat.reduceAdd, Nat.reduceSub]) | (refine op_call rfl rfl rfl ?_; refine enter rfl Try.func98 rfl Try.ntmps98 rfl ?_; dsimp only [List.cons_append, List.nil_append, List.length_cons, List.length_nil, List.replicate_succ, List.replicate_zero, Nat.reduceAdd, Nat.reduceSub]) | (refine op_call rfl rfl rfl ?_; refine enter rfl Try.func84 rfl Try.ntmps84 rfl ?_; dsimp only [List.cons_append, List.nil_append, List.length_cons, List.length_nil, List.replicate_succ, List.replicate_zero, Nat.reduceAdd, Nat.reduceSub]) | refine op_pick_t rfl rfl (by first | assumption | with_reducible rfl | decide) rfl ?_ | refine op_pick_f rfl rfl (by first | assumption | with_reducible rfl | decide) rfl ?_ | refine op_at (opD_load rfl rfl (by repeat (first | exact obj_here rfl | exact obj_set | assumption | refine obj_skip (by (try simp only [DH.new_next, DH.set_next]); omega) ?_ | refine obj_past (by (try simp only [DH.new_next, DH.set_next]); omega) ?_)) rfl rfl) ?_ | refine op_at (opD_store rfl rfl rfl rfl rfl (by repeat (first | exact obj_here rfl | exact obj_set | assumption | refine obj_skip (by (try simp only [DH.new_next, DH.set_next]); omega) ?_ | refine obj_past (by (try simp only [DH.new_next, DH.set_next]); omega) ?_)) rfl) ?_ | refine op_at (opD_eqb rfl rfl rfl rfl) ?_ | refine op_at (opD_neqb rfl rfl rfl rfl) ?_ | refine op_at rfl ?_); dsimp only [putD, DV.cells, DH.new_next, DH.set_next, List.length_cons, List.length_nil, Nat.reduceAdd, List.set_cons_zero, List.set_cons_succ, getD_zero, getD_succ, fieldAt_zero, fieldAt_succ, thenD, blockD, retR])
    | (refine drawc_off (by first | exact wanted_off1 rfl rfl (by first | assumption | with_reducible rfl | decide) | exact wanted_off0 rfl rfl (by first | assumption | with_reducible rfl | decide)) ?_; dsimp only [putD, DV.cells, DH.new_next, DH.set_next, List.length_cons, List.length_nil, Nat.reduceAdd, List.set_cons_zero, List.set_cons_succ, getD_zero, getD_succ, fieldAt_zero, fieldAt_succ, thenD, blockD, retR])
    | refine dwp_cond_t rfl (by first | assumption | with_reducible rfl | decide) ?_
    | refine dwp_cond_f rfl (by first | assumption | with_reducible rfl | decide) ?_
    | (refine dwp_cond rfl ?_ ?_ <;> intro hb)
    | refine dwp_block ?_
    | refine dwp_skip ?_
    | refine dwp_ret ?_
    | refine dwp_exit ?_
    | dsimp only [thenD, blockD, retR]
    | (refine ⟨_, rfl, ?_⟩; try dsimp only)
    | fail)
  all_goals refine ⟨?_, rfl⟩
  all_goals dsimp only [getD_zero, getD_succ]
  all_goals refine congrArg DV.bool ?_
  all_goals rw [Bool.eq_iff_iff]
  all_goals simp only [okT, wrap1, Bool.and_eq_true, decide_eq_true_eq, Bool.not_eq_true', decide_eq_false_iff_not] at *
  all_goals omega

def gMay : G := fun args H => match args with
  | [.sl (some (l, 0, 1)) 1 1 true] => match H.obj l with
    | some (.rows _ 1 [[.int .i64 x]]) => some (.bool (okT x), H)
    | _ => none
  | [.sl (some (l, 0, 1)) 2 2 true] => match H.obj l with
    | some (.rows _ 1 [[.int .i64 x], [.int .i64 y]]) => some (.bool (okT x && okT y), H)
    | _ => none
  | _ => none

theorem may_ok : ExtSound Try.prog gMay 72 := ext_read ok0 Try.func72 rfl rfl (by
  intro args H r H' hw h
  unfold gMay at h
  split at h
  · split at h
    · rename_i ho
      cases h
      exact ⟨rfl, rfl, (may1 H _ _ _ ho).mono fun r' H1 ⟨h1, h2⟩ => ⟨h1, h2 ▸ Above.refl H⟩⟩
    · cases h
  · split at h
    · rename_i ho
      cases h
      exact ⟨rfl, rfl, (may2 H _ _ _ _ ho).mono fun r' H1 ⟨h1, h2⟩ => ⟨h1, h2 ▸ Above.refl H⟩⟩
    · cases h
  · cases h)

def E1 : List (FuncId × G) := [(15, gLive), (72, gMay)]
theorem okE1 : ∀ f g, (f, g) ∈ E1 → ExtSound Try.prog g f := by
  intro f g h
  simp only [E1, List.mem_cons, List.not_mem_nil, or_false, Prod.mk.injEq] at h
  rcases h with ⟨rfl, rfl⟩ | ⟨rfl, rfl⟩
  · exact live_ok
  · exact may_ok
def X1 : Ext := Xof L E1
theorem ok1 : ProgOk Try.prog X1 := progOk_of mixed okL okE1

end Go.Det.M11
