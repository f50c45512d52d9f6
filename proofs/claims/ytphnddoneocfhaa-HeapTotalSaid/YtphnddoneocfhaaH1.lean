/- Which of two things comes first: tables for the functions that tell it. -/
import Derived.Test.YtphnddoneocfhaaD24
import Derived.Test.YtphnddoneocfhaaRows
namespace Go.Det.H04
open Go Go.Det Go.Proofs
set_option maxRecDepth 4000
set_option linter.unusedVariables false

abbrev G := List DV → DH → Option (DV × DH)
abbrev H0 : DH := ⟨0, fun _ => none⟩

def L : List FuncId := [21, 39, 53, 68, 22, 52, 75, 85, 76, 86, 77, 87, 74, 26, 24, 55, 54, 5]
theorem mixed : Try.prog.follows .mixedOrders = true := by kernel_rfl
theorem okL : L.all (okB Try.prog) = true := by kernel_rfl

def X0 : Ext := Xof L []
theorem ok0 : ProgOk Try.prog X0 := progOk_of mixed okL (by simp)

/-- The chapter's example. -/
def gLive : G := fun args H => match args with
  | [] => some (.bool true, H)
  | _ => none

theorem live_run : (match callD Try.prog X0 1000 21 [] H0 with | some (.bool true, _) => true | _ => false) = true := by kernel_rfl

theorem live_ok : ExtSound Try.prog gLive 21 := ext_closed ok0 Try.func21 rfl rfl (by
  intro args H r H' h
  unfold gLive at h
  split at h <;> cases h
  refine ⟨rfl, rfl, rfl, 1000, ?_⟩
  have := live_run
  split at this
  · rename_i H1 e
    exact ⟨H1, e⟩
  · cases this)

/-- How two whole numbers compare. -/
def cmpI (x y : Int) : Int := if x < y then -1 else if x > y then 1 else 0

theorem nan85 (x : Int) (H : DH) (K : DV → DH → Prop) (h : K (.bool false) H) : CallWp Try.prog X0 85 [.int .i64 x] H K := by
  refine enter rfl Try.func85 rfl Try.ntmps85 rfl ?_
  dsimp only [List.cons_append, List.nil_append, List.length_cons, List.length_nil, List.replicate_succ, List.replicate_zero, Nat.reduceAdd, Nat.reduceSub]
  repeat' (first
    | refine dwp_seq ?_
    | refine dwp_region ?_
    | refine ops_nil ?_
    | (refine ops_plain rfl ?_; (first | refine op_pick_t rfl rfl (by first | assumption | with_reducible rfl | decide) rfl ?_ | refine op_pick_f rfl rfl (by first | assumption | with_reducible rfl | decide) rfl ?_ | refine op_at rfl ?_); dsimp only [putD, DV.cells, DH.new_next, DH.set_next, List.length_cons, List.length_nil, Nat.reduceAdd, List.set_cons_zero, List.set_cons_succ, getD_zero, getD_succ, fieldAt_zero, fieldAt_succ, thenD, blockD, retR])
    | (refine ops_on rfl rfl (by first | assumption | with_reducible rfl | decide) ?_; (first | refine op_pick_t rfl rfl (by first | assumption | with_reducible rfl | decide) rfl ?_ | refine op_pick_f rfl rfl (by first | assumption | with_reducible rfl | decide) rfl ?_ | refine op_at rfl ?_); dsimp only [putD, DV.cells, DH.new_next, DH.set_next, List.length_cons, List.length_nil, Nat.reduceAdd, List.set_cons_zero, List.set_cons_succ, getD_zero, getD_succ, fieldAt_zero, fieldAt_succ, thenD, blockD, retR])
    | (refine ops_off1 rfl rfl (by first | assumption | with_reducible rfl | decide) ?_; dsimp only [putD, DV.cells, DH.new_next, DH.set_next, List.length_cons, List.length_nil, Nat.reduceAdd, List.set_cons_zero, List.set_cons_succ, getD_zero, getD_succ, fieldAt_zero, fieldAt_succ, thenD, blockD, retR])
    | (refine ops_off0 rfl rfl (by first | assumption | with_reducible rfl | decide) ?_; dsimp only [putD, DV.cells, DH.new_next, DH.set_next, List.length_cons, List.length_nil, Nat.reduceAdd, List.set_cons_zero, List.set_cons_succ, getD_zero, getD_succ, fieldAt_zero, fieldAt_succ, thenD, blockD, retR])
    | (refine ops_split1 rfl rfl ?_ ?_ <;> intro hb)
    | (refine ops_split0 rfl rfl ?_ ?_ <;> intro hb)
    | ((first | refine op_pick_t rfl rfl (by first | assumption | with_reducible rfl | decide) rfl ?_ | refine op_pick_f rfl rfl (by first | assumption | with_reducible rfl | decide) rfl ?_ | refine op_at rfl ?_); dsimp only [putD, DV.cells, DH.new_next, DH.set_next, List.length_cons, List.length_nil, Nat.reduceAdd, List.set_cons_zero, List.set_cons_succ, getD_zero, getD_succ, fieldAt_zero, fieldAt_succ, thenD, blockD, retR])
    | refine dwp_cond_t rfl (by first | assumption | with_reducible rfl | decide) ?_
    | refine dwp_cond_f rfl (by first | assumption | with_reducible rfl | decide) ?_
    | (refine dwp_cond rfl ?_ ?_ <;> intro hb)
    | refine dwp_block ?_
    | refine dwp_skip ?_
    | refine dwp_ret ?_
    | refine dwp_exit ?_
    | dsimp only [thenD, blockD, retR])
  have e : (x != x) = false := by simp
  refine ⟨_, rfl, ?_⟩
  show K (.bool (x != x)) H
  rw [e]
  exact h

def g75 : G := fun args H => match args with
  | [.int .i64 x, .int .i64 y] => some (.int .i64 (cmpI x y), H)
  | _ => none

theorem cmp75 (x y : Int) : CallWp Try.prog X0 75 [.int .i64 x, .int .i64 y] H0 (fun r _ => r = .int .i64 (cmpI x y)) := by
  refine enter rfl Try.func75 rfl Try.ntmps75 rfl ?_
  dsimp only [List.cons_append, List.nil_append, List.length_cons, List.length_nil, List.replicate_succ, List.replicate_zero, Nat.reduceAdd, Nat.reduceSub]
  repeat' (first
    | refine dwp_seq ?_
    | refine dwp_region ?_
    | refine ops_nil ?_
    | (refine ops_plain rfl ?_; (first | (refine op_call rfl rfl rfl ?_; refine nan85 _ _ _ ?_) | refine op_pick_t rfl rfl (by first | assumption | with_reducible rfl | decide) rfl ?_ | refine op_pick_f rfl rfl (by first | assumption | with_reducible rfl | decide) rfl ?_ | refine op_at rfl ?_); dsimp only [putD, DV.cells, DH.new_next, DH.set_next, List.length_cons, List.length_nil, Nat.reduceAdd, List.set_cons_zero, List.set_cons_succ, getD_zero, getD_succ, fieldAt_zero, fieldAt_succ, thenD, blockD, retR])
    | (refine ops_on rfl rfl (by first | assumption | with_reducible rfl | decide) ?_; (first | (refine op_call rfl rfl rfl ?_; refine nan85 _ _ _ ?_) | refine op_pick_t rfl rfl (by first | assumption | with_reducible rfl | decide) rfl ?_ | refine op_pick_f rfl rfl (by first | assumption | with_reducible rfl | decide) rfl ?_ | refine op_at rfl ?_); dsimp only [putD, DV.cells, DH.new_next, DH.set_next, List.length_cons, List.length_nil, Nat.reduceAdd, List.set_cons_zero, List.set_cons_succ, getD_zero, getD_succ, fieldAt_zero, fieldAt_succ, thenD, blockD, retR])
    | (refine ops_off1 rfl rfl (by first | assumption | with_reducible rfl | decide) ?_; dsimp only [putD, DV.cells, DH.new_next, DH.set_next, List.length_cons, List.length_nil, Nat.reduceAdd, List.set_cons_zero, List.set_cons_succ, getD_zero, getD_succ, fieldAt_zero, fieldAt_succ, thenD, blockD, retR])
    | (refine ops_off0 rfl rfl (by first | assumption | with_reducible rfl | decide) ?_; dsimp only [putD, DV.cells, DH.new_next, DH.set_next, List.length_cons, List.length_nil, Nat.reduceAdd, List.set_cons_zero, List.set_cons_succ, getD_zero, getD_succ, fieldAt_zero, fieldAt_succ, thenD, blockD, retR])
    | (refine ops_split1 rfl rfl ?_ ?_ <;> intro hb)
    | (refine ops_split0 rfl rfl ?_ ?_ <;> intro hb)
    | ((first | (refine op_call rfl rfl rfl ?_; refine nan85 _ _ _ ?_) | refine op_pick_t rfl rfl (by first | assumption | with_reducible rfl | decide) rfl ?_ | refine op_pick_f rfl rfl (by first | assumption | with_reducible rfl | decide) rfl ?_ | refine op_at rfl ?_); dsimp only [putD, DV.cells, DH.new_next, DH.set_next, List.length_cons, List.length_nil, Nat.reduceAdd, List.set_cons_zero, List.set_cons_succ, getD_zero, getD_succ, fieldAt_zero, fieldAt_succ, thenD, blockD, retR])
    | refine dwp_cond_t rfl (by first | assumption | with_reducible rfl | decide) ?_
    | refine dwp_cond_f rfl (by first | assumption | with_reducible rfl | decide) ?_
    | (refine dwp_cond rfl ?_ ?_ <;> intro hb)
    | refine dwp_block ?_
    | refine dwp_skip ?_
    | refine dwp_ret ?_
    | refine dwp_exit ?_
    | dsimp only [thenD, blockD, retR])
  all_goals refine ⟨_, rfl, ?_⟩
  all_goals simp_all [cmpI]
  all_goals (rw [if_neg (by omega), if_neg (by omega)])

theorem ok75 : ExtSound Try.prog g75 75 := ext_closed ok0 Try.func75 rfl rfl (by
  intro args H r H' h
  unfold g75 at h
  split at h <;> cases h
  refine ⟨rfl, rfl, rfl, ?_⟩
  obtain ⟨k, r, H1, h1, rfl⟩ := (cmp75 _ _).ex
  exact ⟨k, H1, h1⟩)

theorem nan86 (x : Int) (H : DH) (K : DV → DH → Prop) (h : K (.bool false) H) : CallWp Try.prog X0 86 [.int .i64 x] H K := by
  refine enter rfl Try.func86 rfl Try.ntmps86 rfl ?_
  dsimp only [List.cons_append, List.nil_append, List.length_cons, List.length_nil, List.replicate_succ, List.replicate_zero, Nat.reduceAdd, Nat.reduceSub]
  repeat' (first
    | refine dwp_seq ?_
    | refine dwp_region ?_
    | refine ops_nil ?_
    | (refine ops_plain rfl ?_; (first | refine op_pick_t rfl rfl (by first | assumption | with_reducible rfl | decide) rfl ?_ | refine op_pick_f rfl rfl (by first | assumption | with_reducible rfl | decide) rfl ?_ | refine op_at rfl ?_); dsimp only [putD, DV.cells, DH.new_next, DH.set_next, List.length_cons, List.length_nil, Nat.reduceAdd, List.set_cons_zero, List.set_cons_succ, getD_zero, getD_succ, fieldAt_zero, fieldAt_succ, thenD, blockD, retR])
    | (refine ops_on rfl rfl (by first | assumption | with_reducible rfl | decide) ?_; (first | refine op_pick_t rfl rfl (by first | assumption | with_reducible rfl | decide) rfl ?_ | refine op_pick_f rfl rfl (by first | assumption | with_reducible rfl | decide) rfl ?_ | refine op_at rfl ?_); dsimp only [putD, DV.cells, DH.new_next, DH.set_next, List.length_cons, List.length_nil, Nat.reduceAdd, List.set_cons_zero, List.set_cons_succ, getD_zero, getD_succ, fieldAt_zero, fieldAt_succ, thenD, blockD, retR])
    | (refine ops_off1 rfl rfl (by first | assumption | with_reducible rfl | decide) ?_; dsimp only [putD, DV.cells, DH.new_next, DH.set_next, List.length_cons, List.length_nil, Nat.reduceAdd, List.set_cons_zero, List.set_cons_succ, getD_zero, getD_succ, fieldAt_zero, fieldAt_succ, thenD, blockD, retR])
    | (refine ops_off0 rfl rfl (by first | assumption | with_reducible rfl | decide) ?_; dsimp only [putD, DV.cells, DH.new_next, DH.set_next, List.length_cons, List.length_nil, Nat.reduceAdd, List.set_cons_zero, List.set_cons_succ, getD_zero, getD_succ, fieldAt_zero, fieldAt_succ, thenD, blockD, retR])
    | (refine ops_split1 rfl rfl ?_ ?_ <;> intro hb)
    | (refine ops_split0 rfl rfl ?_ ?_ <;> intro hb)
    | ((first | refine op_pick_t rfl rfl (by first | assumption | with_reducible rfl | decide) rfl ?_ | refine op_pick_f rfl rfl (by first | assumption | with_reducible rfl | decide) rfl ?_ | refine op_at rfl ?_); dsimp only [putD, DV.cells, DH.new_next, DH.set_next, List.length_cons, List.length_nil, Nat.reduceAdd, List.set_cons_zero, List.set_cons_succ, getD_zero, getD_succ, fieldAt_zero, fieldAt_succ, thenD, blockD, retR])
    | refine dwp_cond_t rfl (by first | assumption | with_reducible rfl | decide) ?_
    | refine dwp_cond_f rfl (by first | assumption | with_reducible rfl | decide) ?_
    | (refine dwp_cond rfl ?_ ?_ <;> intro hb)
    | refine dwp_block ?_
    | refine dwp_skip ?_
    | refine dwp_ret ?_
    | refine dwp_exit ?_
    | dsimp only [thenD, blockD, retR])
  have e : (x != x) = false := by simp
  refine ⟨_, rfl, ?_⟩
  show K (.bool (x != x)) H
  rw [e]
  exact h

def g76 : G := fun args H => match args with
  | [.int .i64 x, .int .i64 y] => some (.int .i64 (cmpI x y), H)
  | _ => none

theorem cmp76 (x y : Int) : CallWp Try.prog X0 76 [.int .i64 x, .int .i64 y] H0 (fun r _ => r = .int .i64 (cmpI x y)) := by
  refine enter rfl Try.func76 rfl Try.ntmps76 rfl ?_
  dsimp only [List.cons_append, List.nil_append, List.length_cons, List.length_nil, List.replicate_succ, List.replicate_zero, Nat.reduceAdd, Nat.reduceSub]
  repeat' (first
    | refine dwp_seq ?_
    | refine dwp_region ?_
    | refine ops_nil ?_
    | (refine ops_plain rfl ?_; (first | (refine op_call rfl rfl rfl ?_; refine nan86 _ _ _ ?_) | refine op_pick_t rfl rfl (by first | assumption | with_reducible rfl | decide) rfl ?_ | refine op_pick_f rfl rfl (by first | assumption | with_reducible rfl | decide) rfl ?_ | refine op_at rfl ?_); dsimp only [putD, DV.cells, DH.new_next, DH.set_next, List.length_cons, List.length_nil, Nat.reduceAdd, List.set_cons_zero, List.set_cons_succ, getD_zero, getD_succ, fieldAt_zero, fieldAt_succ, thenD, blockD, retR])
    | (refine ops_on rfl rfl (by first | assumption | with_reducible rfl | decide) ?_; (first | (refine op_call rfl rfl rfl ?_; refine nan86 _ _ _ ?_) | refine op_pick_t rfl rfl (by first | assumption | with_reducible rfl | decide) rfl ?_ | refine op_pick_f rfl rfl (by first | assumption | with_reducible rfl | decide) rfl ?_ | refine op_at rfl ?_); dsimp only [putD, DV.cells, DH.new_next, DH.set_next, List.length_cons, List.length_nil, Nat.reduceAdd, List.set_cons_zero, List.set_cons_succ, getD_zero, getD_succ, fieldAt_zero, fieldAt_succ, thenD, blockD, retR])
    | (refine ops_off1 rfl rfl (by first | assumption | with_reducible rfl | decide) ?_; dsimp only [putD, DV.cells, DH.new_next, DH.set_next, List.length_cons, List.length_nil, Nat.reduceAdd, List.set_cons_zero, List.set_cons_succ, getD_zero, getD_succ, fieldAt_zero, fieldAt_succ, thenD, blockD, retR])
    | (refine ops_off0 rfl rfl (by first | assumption | with_reducible rfl | decide) ?_; dsimp only [putD, DV.cells, DH.new_next, DH.set_next, List.length_cons, List.length_nil, Nat.reduceAdd, List.set_cons_zero, List.set_cons_succ, getD_zero, getD_succ, fieldAt_zero, fieldAt_succ, thenD, blockD, retR])
    | (refine ops_split1 rfl rfl ?_ ?_ <;> intro hb)
    | (refine ops_split0 rfl rfl ?_ ?_ <;> intro hb)
    | ((first | (refine op_call rfl rfl rfl ?_; refine nan86 _ _ _ ?_) | refine op_pick_t rfl rfl (by first | assumption | with_reducible rfl | decide) rfl ?_ | refine op_pick_f rfl rfl (by first | assumption | with_reducible rfl | decide) rfl ?_ | refine op_at rfl ?_); dsimp only [putD, DV.cells, DH.new_next, DH.set_next, List.length_cons, List.length_nil, Nat.reduceAdd, List.set_cons_zero, List.set_cons_succ, getD_zero, getD_succ, fieldAt_zero, fieldAt_succ, thenD, blockD, retR])
    | refine dwp_cond_t rfl (by first | assumption | with_reducible rfl | decide) ?_
    | refine dwp_cond_f rfl (by first | assumption | with_reducible rfl | decide) ?_
    | (refine dwp_cond rfl ?_ ?_ <;> intro hb)
    | refine dwp_block ?_
    | refine dwp_skip ?_
    | refine dwp_ret ?_
    | refine dwp_exit ?_
    | dsimp only [thenD, blockD, retR])
  all_goals refine ⟨_, rfl, ?_⟩
  all_goals simp_all [cmpI]
  all_goals (rw [if_neg (by omega), if_neg (by omega)])

theorem ok76 : ExtSound Try.prog g76 76 := ext_closed ok0 Try.func76 rfl rfl (by
  intro args H r H' h
  unfold g76 at h
  split at h <;> cases h
  refine ⟨rfl, rfl, rfl, ?_⟩
  obtain ⟨k, r, H1, h1, rfl⟩ := (cmp76 _ _).ex
  exact ⟨k, H1, h1⟩)

theorem nan87 (x : Int) (H : DH) (K : DV → DH → Prop) (h : K (.bool false) H) : CallWp Try.prog X0 87 [.int .u64 x] H K := by
  refine enter rfl Try.func87 rfl Try.ntmps87 rfl ?_
  dsimp only [List.cons_append, List.nil_append, List.length_cons, List.length_nil, List.replicate_succ, List.replicate_zero, Nat.reduceAdd, Nat.reduceSub]
  repeat' (first
    | refine dwp_seq ?_
    | refine dwp_region ?_
    | refine ops_nil ?_
    | (refine ops_plain rfl ?_; (first | refine op_pick_t rfl rfl (by first | assumption | with_reducible rfl | decide) rfl ?_ | refine op_pick_f rfl rfl (by first | assumption | with_reducible rfl | decide) rfl ?_ | refine op_at rfl ?_); dsimp only [putD, DV.cells, DH.new_next, DH.set_next, List.length_cons, List.length_nil, Nat.reduceAdd, List.set_cons_zero, List.set_cons_succ, getD_zero, getD_succ, fieldAt_zero, fieldAt_succ, thenD, blockD, retR])
    | (refine ops_on rfl rfl (by first | assumption | with_reducible rfl | decide) ?_; (first | refine op_pick_t rfl rfl (by first | assumption | with_reducible rfl | decide) rfl ?_ | refine op_pick_f rfl rfl (by first | assumption | with_reducible rfl | decide) rfl ?_ | refine op_at rfl ?_); dsimp only [putD, DV.cells, DH.new_next, DH.set_next, List.length_cons, List.length_nil, Nat.reduceAdd, List.set_cons_zero, List.set_cons_succ, getD_zero, getD_succ, fieldAt_zero, fieldAt_succ, thenD, blockD, retR])
    | (refine ops_off1 rfl rfl (by first | assumption | with_reducible rfl | decide) ?_; dsimp only [putD, DV.cells, DH.new_next, DH.set_next, List.length_cons, List.length_nil, Nat.reduceAdd, List.set_cons_zero, List.set_cons_succ, getD_zero, getD_succ, fieldAt_zero, fieldAt_succ, thenD, blockD, retR])
    | (refine ops_off0 rfl rfl (by first | assumption | with_reducible rfl | decide) ?_; dsimp only [putD, DV.cells, DH.new_next, DH.set_next, List.length_cons, List.length_nil, Nat.reduceAdd, List.set_cons_zero, List.set_cons_succ, getD_zero, getD_succ, fieldAt_zero, fieldAt_succ, thenD, blockD, retR])
    | (refine ops_split1 rfl rfl ?_ ?_ <;> intro hb)
    | (refine ops_split0 rfl rfl ?_ ?_ <;> intro hb)
    | ((first | refine op_pick_t rfl rfl (by first | assumption | with_reducible rfl | decide) rfl ?_ | refine op_pick_f rfl rfl (by first | assumption | with_reducible rfl | decide) rfl ?_ | refine op_at rfl ?_); dsimp only [putD, DV.cells, DH.new_next, DH.set_next, List.length_cons, List.length_nil, Nat.reduceAdd, List.set_cons_zero, List.set_cons_succ, getD_zero, getD_succ, fieldAt_zero, fieldAt_succ, thenD, blockD, retR])
    | refine dwp_cond_t rfl (by first | assumption | with_reducible rfl | decide) ?_
    | refine dwp_cond_f rfl (by first | assumption | with_reducible rfl | decide) ?_
    | (refine dwp_cond rfl ?_ ?_ <;> intro hb)
    | refine dwp_block ?_
    | refine dwp_skip ?_
    | refine dwp_ret ?_
    | refine dwp_exit ?_
    | dsimp only [thenD, blockD, retR])
  have e : (x != x) = false := by simp
  refine ⟨_, rfl, ?_⟩
  show K (.bool (x != x)) H
  rw [e]
  exact h

def g77 : G := fun args H => match args with
  | [.int .u64 x, .int .u64 y] => some (.int .i64 (cmpI x y), H)
  | _ => none

theorem cmp77 (x y : Int) : CallWp Try.prog X0 77 [.int .u64 x, .int .u64 y] H0 (fun r _ => r = .int .i64 (cmpI x y)) := by
  refine enter rfl Try.func77 rfl Try.ntmps77 rfl ?_
  dsimp only [List.cons_append, List.nil_append, List.length_cons, List.length_nil, List.replicate_succ, List.replicate_zero, Nat.reduceAdd, Nat.reduceSub]
  repeat' (first
    | refine dwp_seq ?_
    | refine dwp_region ?_
    | refine ops_nil ?_
    | (refine ops_plain rfl ?_; (first | (refine op_call rfl rfl rfl ?_; refine nan87 _ _ _ ?_) | refine op_pick_t rfl rfl (by first | assumption | with_reducible rfl | decide) rfl ?_ | refine op_pick_f rfl rfl (by first | assumption | with_reducible rfl | decide) rfl ?_ | refine op_at rfl ?_); dsimp only [putD, DV.cells, DH.new_next, DH.set_next, List.length_cons, List.length_nil, Nat.reduceAdd, List.set_cons_zero, List.set_cons_succ, getD_zero, getD_succ, fieldAt_zero, fieldAt_succ, thenD, blockD, retR])
    | (refine ops_on rfl rfl (by first | assumption | with_reducible rfl | decide) ?_; (first | (refine op_call rfl rfl rfl ?_; refine nan87 _ _ _ ?_) | refine op_pick_t rfl rfl (by first | assumption | with_reducible rfl | decide) rfl ?_ | refine op_pick_f rfl rfl (by first | assumption | with_reducible rfl | decide) rfl ?_ | refine op_at rfl ?_); dsimp only [putD, DV.cells, DH.new_next, DH.set_next, List.length_cons, List.length_nil, Nat.reduceAdd, List.set_cons_zero, List.set_cons_succ, getD_zero, getD_succ, fieldAt_zero, fieldAt_succ, thenD, blockD, retR])
    | (refine ops_off1 rfl rfl (by first | assumption | with_reducible rfl | decide) ?_; dsimp only [putD, DV.cells, DH.new_next, DH.set_next, List.length_cons, List.length_nil, Nat.reduceAdd, List.set_cons_zero, List.set_cons_succ, getD_zero, getD_succ, fieldAt_zero, fieldAt_succ, thenD, blockD, retR])
    | (refine ops_off0 rfl rfl (by first | assumption | with_reducible rfl | decide) ?_; dsimp only [putD, DV.cells, DH.new_next, DH.set_next, List.length_cons, List.length_nil, Nat.reduceAdd, List.set_cons_zero, List.set_cons_succ, getD_zero, getD_succ, fieldAt_zero, fieldAt_succ, thenD, blockD, retR])
    | (refine ops_split1 rfl rfl ?_ ?_ <;> intro hb)
    | (refine ops_split0 rfl rfl ?_ ?_ <;> intro hb)
    | ((first | (refine op_call rfl rfl rfl ?_; refine nan87 _ _ _ ?_) | refine op_pick_t rfl rfl (by first | assumption | with_reducible rfl | decide) rfl ?_ | refine op_pick_f rfl rfl (by first | assumption | with_reducible rfl | decide) rfl ?_ | refine op_at rfl ?_); dsimp only [putD, DV.cells, DH.new_next, DH.set_next, List.length_cons, List.length_nil, Nat.reduceAdd, List.set_cons_zero, List.set_cons_succ, getD_zero, getD_succ, fieldAt_zero, fieldAt_succ, thenD, blockD, retR])
    | refine dwp_cond_t rfl (by first | assumption | with_reducible rfl | decide) ?_
    | refine dwp_cond_f rfl (by first | assumption | with_reducible rfl | decide) ?_
    | (refine dwp_cond rfl ?_ ?_ <;> intro hb)
    | refine dwp_block ?_
    | refine dwp_skip ?_
    | refine dwp_ret ?_
    | refine dwp_exit ?_
    | dsimp only [thenD, blockD, retR])
  all_goals refine ⟨_, rfl, ?_⟩
  all_goals simp_all [cmpI]
  all_goals (rw [if_neg (by omega), if_neg (by omega)])

theorem ok77 : ExtSound Try.prog g77 77 := ext_closed ok0 Try.func77 rfl rfl (by
  intro args H r H' h
  unfold g77 at h
  split at h <;> cases h
  refine ⟨rfl, rfl, rfl, ?_⟩
  obtain ⟨k, r, H1, h1, rfl⟩ := (cmp77 _ _).ex
  exact ⟨k, H1, h1⟩)

def E1 : List (FuncId × G) := [(21, gLive), (75, g75), (76, g76), (77, g77)]
def X1 : Ext := Xof L E1
theorem ok1 : ProgOk Try.prog X1 := progOk_of mixed okL (by
  intro f g h
  simp only [E1, List.mem_cons, List.not_mem_nil, or_false, Prod.mk.injEq] at h
  rcases h with ⟨rfl, rfl⟩ | ⟨rfl, rfl⟩ | ⟨rfl, rfl⟩ | ⟨rfl, rfl⟩
  · exact live_ok
  · exact ok75
  · exact ok76
  · exact ok77)


/-- The first that is not nought. -/
def orI : List Int → Int
  | [] => 0
  | x :: r => if x = 0 then orI r else x

theorem or6 (o1 o2 : DObj) (a b c d e f : Int) : CallWp Try.prog X1 74 [.sl (some (2, 0, 1)) 6 6 true] (((H0.new o1).new o2).new (.rows false 1 [[.int .i64 a], [.int .i64 b], [.int .i64 c], [.int .i64 d], [.int .i64 e], [.int .i64 f]])) (fun r _ => r = .int .i64 (orI [a, b, c, d, e, f])) := by
  refine enter rfl Try.func74 rfl Try.ntmps74 rfl ?_
  dsimp only [List.cons_append, List.nil_append, List.length_cons, List.length_nil, List.replicate_succ, List.replicate_zero, Nat.reduceAdd, Nat.reduceSub]
  repeat' (first
    | refine dwp_seq ?_
    | refine dwp_region ?_
    | refine ops_nil ?_
    | refine dwp_round ?_
    | (refine ops_plain rfl ?_; (first | refine op_pick_t rfl rfl (by first | assumption | with_reducible rfl | decide) rfl ?_ | refine op_pick_f rfl rfl (by first | assumption | with_reducible rfl | decide) rfl ?_ | refine op_at rfl ?_); dsimp only [putD, DV.cells, DH.new_next, DH.set_next, List.length_cons, List.length_nil, Nat.reduceAdd, List.set_cons_zero, List.set_cons_succ, getD_zero, getD_succ, fieldAt_zero, fieldAt_succ, thenD, blockD, retR])
    | (refine ops_on rfl rfl (by first | assumption | with_reducible rfl | decide) ?_; (first | refine op_pick_t rfl rfl (by first | assumption | with_reducible rfl | decide) rfl ?_ | refine op_pick_f rfl rfl (by first | assumption | with_reducible rfl | decide) rfl ?_ | refine op_at rfl ?_); dsimp only [putD, DV.cells, DH.new_next, DH.set_next, List.length_cons, List.length_nil, Nat.reduceAdd, List.set_cons_zero, List.set_cons_succ, getD_zero, getD_succ, fieldAt_zero, fieldAt_succ, thenD, blockD, retR])
    | (refine ops_off1 rfl rfl (by first | assumption | with_reducible rfl | decide) ?_; dsimp only [putD, DV.cells, DH.new_next, DH.set_next, List.length_cons, List.length_nil, Nat.reduceAdd, List.set_cons_zero, List.set_cons_succ, getD_zero, getD_succ, fieldAt_zero, fieldAt_succ, thenD, blockD, retR])
    | (refine ops_off0 rfl rfl (by first | assumption | with_reducible rfl | decide) ?_; dsimp only [putD, DV.cells, DH.new_next, DH.set_next, List.length_cons, List.length_nil, Nat.reduceAdd, List.set_cons_zero, List.set_cons_succ, getD_zero, getD_succ, fieldAt_zero, fieldAt_succ, thenD, blockD, retR])
    | (refine ops_split1 rfl rfl ?_ ?_ <;> intro hb)
    | (refine ops_split0 rfl rfl ?_ ?_ <;> intro hb)
    | ((first | refine op_pick_t rfl rfl (by first | assumption | with_reducible rfl | decide) rfl ?_ | refine op_pick_f rfl rfl (by first | assumption | with_reducible rfl | decide) rfl ?_ | refine op_at rfl ?_); dsimp only [putD, DV.cells, DH.new_next, DH.set_next, List.length_cons, List.length_nil, Nat.reduceAdd, List.set_cons_zero, List.set_cons_succ, getD_zero, getD_succ, fieldAt_zero, fieldAt_succ, thenD, blockD, retR])
    | refine dwp_cond_t rfl (by first | assumption | with_reducible rfl | decide) ?_
    | refine dwp_cond_f rfl (by first | assumption | with_reducible rfl | decide) ?_
    | (refine dwp_cond rfl ?_ ?_ <;> intro hb)
    | refine dwp_block ?_
    | refine dwp_skip ?_
    | refine dwp_ret ?_
    | refine dwp_exit ?_
    | dsimp only [thenD, blockD, retR])
  all_goals refine ⟨_, rfl, ?_⟩
  all_goals simp_all [orI]

/-- How two things compare. -/
def cmpL : List Int → List Int → Int
  | x :: xs, y :: ys => if cmpI x y = 0 then cmpL xs ys else cmpI x y
  | _, _ => 0

def g52 : G := fun args H => match args with
  | [.agg [.int .i64 a, .int .i64 b, .int .u64 c, .int .i64 d, .int .i64 e, .int .u64 f], .agg [.int .i64 a', .int .i64 b', .int .u64 c', .int .i64 d', .int .i64 e', .int .u64 f']] => some (.int .i64 (cmpL [a, b, c, d, e, f] [a', b', c', d', e', f']), H)
  | _ => none

theorem cmp52 (a b c d e f a' b' c' d' e' f' : Int) : CallWp Try.prog X1 52 [.agg [.int .i64 a, .int .i64 b, .int .u64 c, .int .i64 d, .int .i64 e, .int .u64 f], .agg [.int .i64 a', .int .i64 b', .int .u64 c', .int .i64 d', .int .i64 e', .int .u64 f']] H0 (fun r _ => r = .int .i64 (cmpL [a, b, c, d, e, f] [a', b', c', d', e', f'])) := by
  refine enter rfl Try.func52 rfl Try.ntmps52 rfl ?_
  dsimp only [List.cons_append, List.nil_append, List.length_cons, List.length_nil, List.replicate_succ, List.replicate_zero, Nat.reduceAdd, Nat.reduceSub]
  repeat' (first
    | refine dwp_seq ?_
    | refine dwp_region ?_
    | refine ops_nil ?_
    | (refine ops_plain rfl ?_; (first | (refine op_call rfl rfl rfl ?_; refine call_table (g := g75) rfl rfl ?_) | (refine op_call rfl rfl rfl ?_; refine call_table (g := g76) rfl rfl ?_) | (refine op_call rfl rfl rfl ?_; refine call_table (g := g77) rfl rfl ?_) | refine op_pick_t rfl rfl (by first | assumption | with_reducible rfl | decide) rfl ?_ | refine op_pick_f rfl rfl (by first | assumption | with_reducible rfl | decide) rfl ?_ | (refine op_call rfl rfl rfl ?_; refine (or6 _ _ _ _ _ _ _ _).mono ?_; rintro r H' rfl) | refine op_at rfl ?_); dsimp only [putD, DV.cells, DH.new_next, DH.set_next, List.length_cons, List.length_nil, Nat.reduceAdd, List.set_cons_zero, List.set_cons_succ, getD_zero, getD_succ, fieldAt_zero, fieldAt_succ, thenD, blockD, retR])
    | (refine ops_on rfl rfl (by first | assumption | with_reducible rfl | decide) ?_; (first | (refine op_call rfl rfl rfl ?_; refine call_table (g := g75) rfl rfl ?_) | (refine op_call rfl rfl rfl ?_; refine call_table (g := g76) rfl rfl ?_) | (refine op_call rfl rfl rfl ?_; refine call_table (g := g77) rfl rfl ?_) | refine op_pick_t rfl rfl (by first | assumption | with_reducible rfl | decide) rfl ?_ | refine op_pick_f rfl rfl (by first | assumption | with_reducible rfl | decide) rfl ?_ | (refine op_call rfl rfl rfl ?_; refine (or6 _ _ _ _ _ _ _ _).mono ?_; rintro r H' rfl) | refine op_at rfl ?_); dsimp only [putD, DV.cells, DH.new_next, DH.set_next, List.length_cons, List.length_nil, Nat.reduceAdd, List.set_cons_zero, List.set_cons_succ, getD_zero, getD_succ, fieldAt_zero, fieldAt_succ, thenD, blockD, retR])
    | (refine ops_off1 rfl rfl (by first | assumption | with_reducible rfl | decide) ?_; dsimp only [putD, DV.cells, DH.new_next, DH.set_next, List.length_cons, List.length_nil, Nat.reduceAdd, List.set_cons_zero, List.set_cons_succ, getD_zero, getD_succ, fieldAt_zero, fieldAt_succ, thenD, blockD, retR])
    | (refine ops_off0 rfl rfl (by first | assumption | with_reducible rfl | decide) ?_; dsimp only [putD, DV.cells, DH.new_next, DH.set_next, List.length_cons, List.length_nil, Nat.reduceAdd, List.set_cons_zero, List.set_cons_succ, getD_zero, getD_succ, fieldAt_zero, fieldAt_succ, thenD, blockD, retR])
    | (refine ops_split1 rfl rfl ?_ ?_ <;> intro hb)
    | (refine ops_split0 rfl rfl ?_ ?_ <;> intro hb)
    | ((first | (refine op_call rfl rfl rfl ?_; refine call_table (g := g75) rfl rfl ?_) | (refine op_call rfl rfl rfl ?_; refine call_table (g := g76) rfl rfl ?_) | (refine op_call rfl rfl rfl ?_; refine call_table (g := g77) rfl rfl ?_) | refine op_pick_t rfl rfl (by first | assumption | with_reducible rfl | decide) rfl ?_ | refine op_pick_f rfl rfl (by first | assumption | with_reducible rfl | decide) rfl ?_ | (refine op_call rfl rfl rfl ?_; refine (or6 _ _ _ _ _ _ _ _).mono ?_; rintro r H' rfl) | refine op_at rfl ?_); dsimp only [putD, DV.cells, DH.new_next, DH.set_next, List.length_cons, List.length_nil, Nat.reduceAdd, List.set_cons_zero, List.set_cons_succ, getD_zero, getD_succ, fieldAt_zero, fieldAt_succ, thenD, blockD, retR])
    | refine dwp_drawc _ rfl ?_
    | refine drawc_nil ?_
    | (refine drawc_pure (by first | exact wanted_plain rfl | exact wanted_on rfl rfl (by first | assumption | with_reducible rfl | decide)) rfl rfl rfl ?_; dsimp only [putD, DV.cells, DH.new_next, DH.set_next, List.length_cons, List.length_nil, Nat.reduceAdd, List.set_cons_zero, List.set_cons_succ, getD_zero, getD_succ, fieldAt_zero, fieldAt_succ, thenD, blockD, retR])
    | (refine drawc_read (by first | exact wanted_plain rfl | exact wanted_on rfl rfl (by first | assumption | with_reducible rfl | decide)) rfl rfl (by kernel_rfl) rfl ?_; dsimp only [putD, DV.cells, DH.new_next, DH.set_next, List.length_cons, List.length_nil, Nat.reduceAdd, List.set_cons_zero, List.set_cons_succ, getD_zero, getD_succ, fieldAt_zero, fieldAt_succ, thenD, blockD, retR])
    | (refine drawc_same (by first | exact wanted_plain rfl | exact wanted_on rfl rfl (by first | assumption | with_reducible rfl | decide)) rfl (by kernel_rfl) ?_; (first | (refine op_call rfl rfl rfl ?_; refine call_table (g := g75) rfl rfl ?_; refine ⟨rfl, ?_⟩) | (refine op_call rfl rfl rfl ?_; refine call_table (g := g76) rfl rfl ?_; refine ⟨rfl, ?_⟩) | (refine op_call rfl rfl rfl ?_; refine call_table (g := g77) rfl rfl ?_; refine ⟨rfl, ?_⟩)); dsimp only [putD, DV.cells, DH.new_next, DH.set_next, List.length_cons, List.length_nil, Nat.reduceAdd, List.set_cons_zero, List.set_cons_succ, getD_zero, getD_succ, fieldAt_zero, fieldAt_succ, thenD, blockD, retR])
    | (refine drawc_sync (by first | exact wanted_plain rfl | exact wanted_on rfl rfl (by first | assumption | with_reducible rfl | decide)) rfl (by kernel_rfl) ?_; (first | (refine op_call rfl rfl rfl ?_; refine call_table (g := g75) rfl rfl ?_) | (refine op_call rfl rfl rfl ?_; refine call_table (g := g76) rfl rfl ?_) | (refine op_call rfl rfl rfl ?_; refine call_table (g := g77) rfl rfl ?_) | refine op_pick_t rfl rfl (by first | assumption | with_reducible rfl | decide) rfl ?_ | refine op_pick_f rfl rfl (by first | assumption | with_reducible rfl | decide) rfl ?_ | (refine op_call rfl rfl rfl ?_; refine (or6 _ _ _ _ _ _ _ _).mono ?_; rintro r H' rfl) | refine op_at rfl ?_); dsimp only [putD, DV.cells, DH.new_next, DH.set_next, List.length_cons, List.length_nil, Nat.reduceAdd, List.set_cons_zero, List.set_cons_succ, getD_zero, getD_succ, fieldAt_zero, fieldAt_succ, thenD, blockD, retR])
    | (refine drawc_off (by first | exact wanted_off1 rfl rfl (by first | assumption | with_reducible rfl | decide) | exact wanted_off0 rfl rfl (by first | assumption | with_reducible rfl | decide)) ?_; dsimp only [putD, DV.cells, DH.new_next, DH.set_next, List.length_cons, List.length_nil, Nat.reduceAdd, List.set_cons_zero, List.set_cons_succ, getD_zero, getD_succ, fieldAt_zero, fieldAt_succ, thenD, blockD, retR])
    | refine dwp_cond_t rfl (by first | assumption | with_reducible rfl | decide) ?_
    | refine dwp_cond_f rfl (by first | assumption | with_reducible rfl | decide) ?_
    | (refine dwp_cond rfl ?_ ?_ <;> intro hb)
    | refine dwp_block ?_
    | refine dwp_skip ?_
    | refine dwp_ret ?_
    | refine dwp_exit ?_
    | dsimp only [thenD, blockD, retR])
  exact ⟨_, rfl, rfl⟩

theorem ok52 : ExtSound Try.prog g52 52 := ext_closed ok1 Try.func52 rfl rfl (by
  intro args H r H' h
  unfold g52 at h
  split at h <;> cases h
  refine ⟨rfl, rfl, rfl, ?_⟩
  obtain ⟨k, r, H1, h1, rfl⟩ := (cmp52 _ _ _ _ _ _ _ _ _ _ _ _).ex
  exact ⟨k, H1, h1⟩)

def X2 : Ext := Xof L ((52, g52) :: E1)
theorem ok2 : ProgOk Try.prog X2 := progOk_of mixed okL (by
  intro f g h
  simp only [E1, List.mem_cons, List.not_mem_nil, or_false, Prod.mk.injEq] at h
  rcases h with ⟨rfl, rfl⟩ | ⟨rfl, rfl⟩ | ⟨rfl, rfl⟩ | ⟨rfl, rfl⟩ | ⟨rfl, rfl⟩
  · exact ok52
  · exact live_ok
  · exact ok75
  · exact ok76
  · exact ok77)

def g22 : G := fun args H => match args with
  | [.agg [.int .i64 a, .int .i64 b, .int .u64 c, .int .i64 d, .int .i64 e, .int .u64 f], .agg [.int .i64 a', .int .i64 b', .int .u64 c', .int .i64 d', .int .i64 e', .int .u64 f']] => some (.bool (decide (cmpL [a, b, c, d, e, f] [a', b', c', d', e', f'] < 0)), H)
  | _ => none

theorem less22 (a b c d e f a' b' c' d' e' f' : Int) : CallWp Try.prog X2 22 [.agg [.int .i64 a, .int .i64 b, .int .u64 c, .int .i64 d, .int .i64 e, .int .u64 f], .agg [.int .i64 a', .int .i64 b', .int .u64 c', .int .i64 d', .int .i64 e', .int .u64 f']] H0 (fun r _ => r = .bool (decide (cmpL [a, b, c, d, e, f] [a', b', c', d', e', f'] < 0))) := by
  refine enter rfl Try.func22 rfl Try.ntmps22 rfl ?_
  dsimp only [List.cons_append, List.nil_append, List.length_cons, List.length_nil, List.replicate_succ, List.replicate_zero, Nat.reduceAdd, Nat.reduceSub]
  repeat' (first
    | refine dwp_seq ?_
    | refine dwp_region ?_
    | refine ops_nil ?_
    | (refine ops_plain rfl ?_; (first | (refine op_call rfl rfl rfl ?_; refine call_table (g := g52) rfl rfl ?_) | refine op_pick_t rfl rfl (by first | assumption | with_reducible rfl | decide) rfl ?_ | refine op_pick_f rfl rfl (by first | assumption | with_reducible rfl | decide) rfl ?_ | refine op_at rfl ?_); dsimp only [putD, DV.cells, DH.new_next, DH.set_next, List.length_cons, List.length_nil, Nat.reduceAdd, List.set_cons_zero, List.set_cons_succ, getD_zero, getD_succ, fieldAt_zero, fieldAt_succ, thenD, blockD, retR])
    | (refine ops_on rfl rfl (by first | assumption | with_reducible rfl | decide) ?_; (first | (refine op_call rfl rfl rfl ?_; refine call_table (g := g52) rfl rfl ?_) | refine op_pick_t rfl rfl (by first | assumption | with_reducible rfl | decide) rfl ?_ | refine op_pick_f rfl rfl (by first | assumption | with_reducible rfl | decide) rfl ?_ | refine op_at rfl ?_); dsimp only [putD, DV.cells, DH.new_next, DH.set_next, List.length_cons, List.length_nil, Nat.reduceAdd, List.set_cons_zero, List.set_cons_succ, getD_zero, getD_succ, fieldAt_zero, fieldAt_succ, thenD, blockD, retR])
    | (refine ops_off1 rfl rfl (by first | assumption | with_reducible rfl | decide) ?_; dsimp only [putD, DV.cells, DH.new_next, DH.set_next, List.length_cons, List.length_nil, Nat.reduceAdd, List.set_cons_zero, List.set_cons_succ, getD_zero, getD_succ, fieldAt_zero, fieldAt_succ, thenD, blockD, retR])
    | (refine ops_off0 rfl rfl (by first | assumption | with_reducible rfl | decide) ?_; dsimp only [putD, DV.cells, DH.new_next, DH.set_next, List.length_cons, List.length_nil, Nat.reduceAdd, List.set_cons_zero, List.set_cons_succ, getD_zero, getD_succ, fieldAt_zero, fieldAt_succ, thenD, blockD, retR])
    | (refine ops_split1 rfl rfl ?_ ?_ <;> intro hb)
    | (refine ops_split0 rfl rfl ?_ ?_ <;> intro hb)
    | ((first | (refine op_call rfl rfl rfl ?_; refine call_table (g := g52) rfl rfl ?_) | refine op_pick_t rfl rfl (by first | assumption | with_reducible rfl | decide) rfl ?_ | refine op_pick_f rfl rfl (by first | assumption | with_reducible rfl | decide) rfl ?_ | refine op_at rfl ?_); dsimp only [putD, DV.cells, DH.new_next, DH.set_next, List.length_cons, List.length_nil, Nat.reduceAdd, List.set_cons_zero, List.set_cons_succ, getD_zero, getD_succ, fieldAt_zero, fieldAt_succ, thenD, blockD, retR])
    | refine dwp_drawc _ rfl ?_
    | refine drawc_nil ?_
    | (refine drawc_pure (by first | exact wanted_plain rfl | exact wanted_on rfl rfl (by first | assumption | with_reducible rfl | decide)) rfl rfl rfl ?_; dsimp only [putD, DV.cells, DH.new_next, DH.set_next, List.length_cons, List.length_nil, Nat.reduceAdd, List.set_cons_zero, List.set_cons_succ, getD_zero, getD_succ, fieldAt_zero, fieldAt_succ, thenD, blockD, retR])
    | (refine drawc_read (by first | exact wanted_plain rfl | exact wanted_on rfl rfl (by first | assumption | with_reducible rfl | decide)) rfl rfl (by kernel_rfl) rfl ?_; dsimp only [putD, DV.cells, DH.new_next, DH.set_next, List.length_cons, List.length_nil, Nat.reduceAdd, List.set_cons_zero, List.set_cons_succ, getD_zero, getD_succ, fieldAt_zero, fieldAt_succ, thenD, blockD, retR])
    | (refine drawc_same (by first | exact wanted_plain rfl | exact wanted_on rfl rfl (by first | assumption | with_reducible rfl | decide)) rfl (by kernel_rfl) ?_; (first | (refine op_call rfl rfl rfl ?_; refine call_table (g := g52) rfl rfl ?_; refine ⟨rfl, ?_⟩)); dsimp only [putD, DV.cells, DH.new_next, DH.set_next, List.length_cons, List.length_nil, Nat.reduceAdd, List.set_cons_zero, List.set_cons_succ, getD_zero, getD_succ, fieldAt_zero, fieldAt_succ, thenD, blockD, retR])
    | (refine drawc_sync (by first | exact wanted_plain rfl | exact wanted_on rfl rfl (by first | assumption | with_reducible rfl | decide)) rfl (by kernel_rfl) ?_; (first | (refine op_call rfl rfl rfl ?_; refine call_table (g := g52) rfl rfl ?_) | refine op_pick_t rfl rfl (by first | assumption | with_reducible rfl | decide) rfl ?_ | refine op_pick_f rfl rfl (by first | assumption | with_reducible rfl | decide) rfl ?_ | refine op_at rfl ?_); dsimp only [putD, DV.cells, DH.new_next, DH.set_next, List.length_cons, List.length_nil, Nat.reduceAdd, List.set_cons_zero, List.set_cons_succ, getD_zero, getD_succ, fieldAt_zero, fieldAt_succ, thenD, blockD, retR])
    | (refine drawc_off (by first | exact wanted_off1 rfl rfl (by first | assumption | with_reducible rfl | decide) | exact wanted_off0 rfl rfl (by first | assumption | with_reducible rfl | decide)) ?_; dsimp only [putD, DV.cells, DH.new_next, DH.set_next, List.length_cons, List.length_nil, Nat.reduceAdd, List.set_cons_zero, List.set_cons_succ, getD_zero, getD_succ, fieldAt_zero, fieldAt_succ, thenD, blockD, retR])
    | refine dwp_cond_t rfl (by first | assumption | with_reducible rfl | decide) ?_
    | refine dwp_cond_f rfl (by first | assumption | with_reducible rfl | decide) ?_
    | (refine dwp_cond rfl ?_ ?_ <;> intro hb)
    | refine dwp_block ?_
    | refine dwp_skip ?_
    | refine dwp_ret ?_
    | refine dwp_exit ?_
    | dsimp only [thenD, blockD, retR])
  exact ⟨_, rfl, rfl⟩

theorem ok22 : ExtSound Try.prog g22 22 := ext_closed ok2 Try.func22 rfl rfl (by
  intro args H r H' h
  unfold g22 at h
  split at h <;> cases h
  refine ⟨rfl, rfl, rfl, ?_⟩
  obtain ⟨k, r, H1, h1, rfl⟩ := (less22 _ _ _ _ _ _ _ _ _ _ _ _).ex
  exact ⟨k, H1, h1⟩)

def E3 : List (FuncId × G) := [(22, g22), (52, g52), (21, gLive), (75, g75), (76, g76), (77, g77)]
theorem okE3 : ∀ f g, (f, g) ∈ E3 → ExtSound Try.prog g f := by
  intro f g h
  simp only [E3, List.mem_cons, List.not_mem_nil, or_false, Prod.mk.injEq] at h
  rcases h with ⟨rfl, rfl⟩ | ⟨rfl, rfl⟩ | ⟨rfl, rfl⟩ | ⟨rfl, rfl⟩ | ⟨rfl, rfl⟩ | ⟨rfl, rfl⟩
  · exact ok22
  · exact ok52
  · exact live_ok
  · exact ok75
  · exact ok76
  · exact ok77

/-- A thing. -/
theorem item_of {H : DH} {cs : List DV} (h : Typed Try.prog H 38 cs) : ∃ a b c d e f, cs = [.int .i64 a, .int .i64 b, .int .u64 c, .int .i64 d, .int .i64 e, .int .u64 f] := by
  obtain ⟨h1, h2⟩ := typed_struct (fs := _) Try.underlying38 h
  have hsz : Try.prog.cellsOf 38 = 6 := by kernel_rfl
  have h64 : Try.prog.cellsOf 2 = 1 := by kernel_rfl
  have hint : Try.prog.cellsOf 3 = 1 := by kernel_rfl
  have hu64 : Try.prog.cellsOf 25 = 1 := by kernel_rfl
  rw [hsz] at h1
  obtain ⟨x0, x1, x2, x3, x4, x5, rfl⟩ := len6 h1
  simp only [List.forall_mem_cons, h64, hint, hu64, List.drop_zero, List.drop_succ_cons, List.take_succ_cons, List.take_zero] at h2
  obtain ⟨t0, t1, t2, t3, t4, t5, _⟩ := h2
  obtain ⟨a, e0, _⟩ := typed_int Try.underlying2 t0
  obtain ⟨b, e1, _⟩ := typed_int Try.underlying3 t1
  obtain ⟨c, e2, _⟩ := typed_int Try.underlying25 t2
  obtain ⟨d, e3, _⟩ := typed_int Try.underlying3 t3
  obtain ⟨e, e4, _⟩ := typed_int Try.underlying3 t4
  obtain ⟨f, e5, _⟩ := typed_int Try.underlying25 t5
  cases e0; cases e1; cases e2; cases e3; cases e4; cases e5
  exact ⟨a, b, c, d, e, f, rfl⟩

end Go.Det.H04
