/- Which thing may not be on a channel; when two meet. -/
import Derived.Test.YtphnddoneocfhaaM1
namespace Go.Det.M11
open Go Go.Det Go.Proofs
set_option maxRecDepth 4000
set_option maxHeartbeats 4000000
set_option linter.unusedVariables false
set_option linter.unusedSimpArgs false

theorem gMay_one {H : DH} {l : Nat} {ro : Bool} {x : Int} (ho : H.obj l = some (.rows ro 1 [[.int .i64 x]])) : gMay [.sl (some (l, 0, 1)) 1 1 true] H = some (.bool (okT x), H) := by simp only [gMay, ho]
theorem gMay_two {H : DH} {l : Nat} {ro : Bool} {x y : Int} (ho : H.obj l = some (.rows ro 1 [[.int .i64 x], [.int .i64 y]])) : gMay [.sl (some (l, 0, 1)) 2 2 true] H = some (.bool (okT x && okT y), H) := by simp only [gMay, ho]

/-- May a thing be? -/
def fitB (fr ch at_ en : Int) (n : Nat) (le : Int) : Bool :=
  decide (0 ≤ fr) && decide (fr < 16) && decide (0 ≤ ch) && decide (ch < 2) && okT at_ && okT en && decide (0 ≤ at_) && decide (at_ < en) && decide (n ≤ 64) && decide (1 ≤ le) && decide (le ≤ 16)

theorem off48 (H : DH) (i fr ch at_ en le : Int) (b : Bool) (p : Option (Nat × Nat × Nat)) (n c : Nat) (ex : Bool) : CallWp Try.prog X1 48 [.agg [.int .u64 i, .int .i64 fr, .int .i64 ch, .int .i64 at_, .int .i64 en, .sl p n c ex, .bool b, .int .i64 le]] H (fun r H' => r = .bool (!fitB fr ch at_ en n le) ∧ Above H H') := by
  refine enter rfl Try.func48 rfl Try.ntmps48 rfl ?_
  dsimp only [List.cons_append, List.nil_append, List.length_cons, List.length_nil, List.replicate_succ, List.replicate_zero, Nat.reduceAdd, Nat.reduceSub]
  repeat' (first
    | refine dwp_seq ?_
    | refine dwp_region ?_
    | refine ops_nil ?_
    | (refine ops_plain rfl ?_; (first | (refine op_call rfl rfl rfl ?_; refine call_table (g := gMay) rfl (gMay_two (by repeat (first | exact obj_here rfl | exact obj_set | assumption | refine obj_skip (by (try simp only [DH.new_next, DH.set_next]); omega) ?_ | refine obj_past (by (try simp only [DH.new_next, DH.set_next]); omega) ?_))) ?_) | refine op_pick_t rfl rfl (by first | assumption | with_reducible rfl | decide) rfl ?_ | refine op_pick_f rfl rfl (by first | assumption | with_reducible rfl | decide) rfl ?_ | refine op_at (opD_load rfl rfl (by repeat (first | exact obj_here rfl | exact obj_set | assumption | refine obj_skip (by (try simp only [DH.new_next, DH.set_next]); omega) ?_ | refine obj_past (by (try simp only [DH.new_next, DH.set_next]); omega) ?_)) rfl rfl) ?_ | refine op_at (opD_store rfl rfl rfl rfl rfl (by repeat (first | exact obj_here rfl | exact obj_set | assumption | refine obj_skip (by (try simp only [DH.new_next, DH.set_next]); omega) ?_ | refine obj_past (by (try simp only [DH.new_next, DH.set_next]); omega) ?_)) rfl) ?_ | refine op_at (opD_eqb rfl rfl rfl rfl) ?_ | refine op_at (opD_neqb rfl rfl rfl rfl) ?_ | refine op_at rfl ?_); dsimp only [putD, DV.cells, DH.new_next, DH.set_next, List.length_cons, List.length_nil, Nat.reduceAdd, List.set_cons_zero, List.set_cons_succ, getD_zero, getD_succ, fieldAt_zero, fieldAt_succ, thenD, blockD, retR])
    | (refine ops_on rfl rfl (by first | assumption | with_reducible rfl | decide) ?_; (first | (refine op_call rfl rfl rfl ?_; refine call_table (g := gMay) rfl (gMay_two (by repeat (first | exact obj_here rfl | exact obj_set | assumption | refine obj_skip (by (try simp only [DH.new_next, DH.set_next]); omega) ?_ | refine obj_past (by (try simp only [DH.new_next, DH.set_next]); omega) ?_))) ?_) | refine op_pick_t rfl rfl (by first | assumption | with_reducible rfl | decide) rfl ?_ | refine op_pick_f rfl rfl (by first | assumption | with_reducible rfl | decide) rfl ?_ | refine op_at (opD_load rfl rfl (by repeat (first | exact obj_here rfl | exact obj_set | assumption | refine obj_skip (by (try simp only [DH.new_next, DH.set_next]); omega) ?_ | refine obj_past (by (try simp only [DH.new_next, DH.set_next]); omega) ?_)) rfl rfl) ?_ | refine op_at (opD_store rfl rfl rfl rfl rfl (by repeat (first | exact obj_here rfl | exact obj_set | assumption | refine obj_skip (by (try simp only [DH.new_next, DH.set_next]); omega) ?_ | refine obj_past (by (try simp only [DH.new_next, DH.set_next]); omega) ?_)) rfl) ?_ | refine op_at (opD_eqb rfl rfl rfl rfl) ?_ | refine op_at (opD_neqb rfl rfl rfl rfl) ?_ | refine op_at rfl ?_); dsimp only [putD, DV.cells, DH.new_next, DH.set_next, List.length_cons, List.length_nil, Nat.reduceAdd, List.set_cons_zero, List.set_cons_succ, getD_zero, getD_succ, fieldAt_zero, fieldAt_succ, thenD, blockD, retR])
    | (refine ops_off1 rfl rfl (by first | assumption | with_reducible rfl | decide) ?_; dsimp only [putD, DV.cells, DH.new_next, DH.set_next, List.length_cons, List.length_nil, Nat.reduceAdd, List.set_cons_zero, List.set_cons_succ, getD_zero, getD_succ, fieldAt_zero, fieldAt_succ, thenD, blockD, retR])
    | (refine ops_off0 rfl rfl (by first | assumption | with_reducible rfl | decide) ?_; dsimp only [putD, DV.cells, DH.new_next, DH.set_next, List.length_cons, List.length_nil, Nat.reduceAdd, List.set_cons_zero, List.set_cons_succ, getD_zero, getD_succ, fieldAt_zero, fieldAt_succ, thenD, blockD, retR])
    | (refine ops_split1 rfl rfl ?_ ?_ <;> intro hb)
    | (refine ops_split0 rfl rfl ?_ ?_ <;> intro hb)
    | ((first | (refine op_call rfl rfl rfl ?_; refine call_table (g := gMay) rfl (gMay_two (by repeat (first | exact obj_here rfl | exact obj_set | assumption | refine obj_skip (by (try simp only [DH.new_next, DH.set_next]); omega) ?_ | refine obj_past (by (try simp only [DH.new_next, DH.set_next]); omega) ?_))) ?_) | refine op_pick_t rfl rfl (by first | assumption | with_reducible rfl | decide) rfl ?_ | refine op_pick_f rfl rfl (by first | assumption | with_reducible rfl | decide) rfl ?_ | refine op_at (opD_load rfl rfl (by repeat (first | exact obj_here rfl | exact obj_set | assumption | refine obj_skip (by (try simp only [DH.new_next, DH.set_next]); omega) ?_ | refine obj_past (by (try simp only [DH.new_next, DH.set_next]); omega) ?_)) rfl rfl) ?_ | refine op_at (opD_store rfl rfl rfl rfl rfl (by repeat (first | exact obj_here rfl | exact obj_set | assumption | refine obj_skip (by (try simp only [DH.new_next, DH.set_next]); omega) ?_ | refine obj_past (by (try simp only [DH.new_next, DH.set_next]); omega) ?_)) rfl) ?_ | refine op_at (opD_eqb rfl rfl rfl rfl) ?_ | refine op_at (opD_neqb rfl rfl rfl rfl) ?_ | refine op_at rfl ?_); dsimp only [putD, DV.cells, DH.new_next, DH.set_next, List.length_cons, List.length_nil, Nat.reduceAdd, List.set_cons_zero, List.set_cons_succ, getD_zero, getD_succ, fieldAt_zero, fieldAt_succ, thenD, blockD, retR])
    | refine dwp_drawc _ rfl ?_
    | refine drawc_nil ?_
    | (refine drawc_pure (by first | exact wanted_plain rfl | exact wanted_on rfl rfl (by first | assumption | with_reducible rfl | decide)) rfl rfl rfl ?_; dsimp only [putD, DV.cells, DH.new_next, DH.set_next, List.length_cons, List.length_nil, Nat.reduceAdd, List.set_cons_zero, List.set_cons_succ, getD_zero, getD_succ, fieldAt_zero, fieldAt_succ, thenD, blockD, retR])
    | (refine drawc_read (by first | exact wanted_plain rfl | exact wanted_on rfl rfl (by first | assumption | with_reducible rfl | decide)) rfl rfl (by kernel_rfl) (opD_load rfl rfl (by repeat (first | exact obj_here rfl | exact obj_set | assumption | refine obj_skip (by (try simp only [DH.new_next, DH.set_next]); omega) ?_ | refine obj_past (by (try simp only [DH.new_next, DH.set_next]); omega) ?_)) rfl rfl) ?_; dsimp only [putD, DV.cells, DH.new_next, DH.set_next, List.length_cons, List.length_nil, Nat.reduceAdd, List.set_cons_zero, List.set_cons_succ, getD_zero, getD_succ, fieldAt_zero, fieldAt_succ, thenD, blockD, retR])
    | (refine drawc_read (by first | exact wanted_plain rfl | exact wanted_on rfl rfl (by first | assumption | with_reducible rfl | decide)) rfl rfl (by kernel_rfl) rfl ?_; dsimp only [putD, DV.cells, DH.new_next, DH.set_next, List.length_cons, List.length_nil, Nat.reduceAdd, List.set_cons_zero, List.set_cons_succ, getD_zero, getD_succ, fieldAt_zero, fieldAt_succ, thenD, blockD, retR])
    | (refine drawc_same (by first | exact wanted_plain rfl | exact wanted_on rfl rfl (by first | assumption | with_reducible rfl | decide)) rfl (by kernel_rfl) ?_; (first | (refine op_call rfl rfl rfl ?_; refine call_table (g := gMay) rfl (gMay_two (by repeat (first | exact obj_here rfl | exact obj_set | assumption | refine obj_skip (by (try simp only [DH.new_next, DH.set_next]); omega) ?_ | refine obj_past (by (try simp only [DH.new_next, DH.set_next]); omega) ?_))) ?_; refine ⟨rfl, ?_⟩)); dsimp only [putD, DV.cells, DH.new_next, DH.set_next, List.length_cons, List.length_nil, Nat.reduceAdd, List.set_cons_zero, List.set_cons_succ, getD_zero, getD_succ, fieldAt_zero, fieldAt_succ, thenD, blockD, retR])
    | (refine drawc_sync (by first | exact wanted_plain rfl | exact wanted_on rfl rfl (by first | assumption | with_reducible rfl | decide)) rfl (by kernel_rfl) ?_; (first | (refine op_call rfl rfl rfl ?_; refine call_table (g := gMay) rfl (gMay_two (by repeat (first | exact obj_here rfl | exact obj_set | assumption | refine obj_skip (by (try simp only [DH.new_next, DH.set_next]); omega) ?_ | refine obj_past (by (try simp only [DH.new_next, DH.set_next]); omega) ?_))) ?_) | refine op_pick_t rfl rfl (by first | assumption | with_reducible rfl | decide) rfl ?_ | refine op_pick_f rfl rfl (by first | assumption | with_reducible rfl | decide) rfl ?_ | refine op_at (opD_load rfl rfl (by repeat (first | exact obj_here rfl | exact obj_set | assumption | refine obj_skip (by (try simp only [DH.new_next, DH.set_next]); omega) ?_ | refine obj_past (by (try simp only [DH.new_next, DH.set_next]); omega) ?_)) rfl rfl) ?_ | refine op_at (opD_store rfl rfl rfl rfl rfl (by repeat (first | exact obj_here rfl | exact obj_set | assumption | refine obj_skip (by (try simp only [DH.new_next, DH.set_next]); omega) ?_ | refine obj_past (by (try simp only [DH.new_next, DH.set_next]); omega) ?_)) rfl) ?_ | refine op_at (opD_eqb rfl rfl rfl rfl) ?_ | refine op_at (opD_neqb rfl rfl rfl rfl) ?_ | refine op_at rfl ?_); dsimp only [putD, DV.cells, DH.new_next, DH.set_next, List.length_cons, List.length_nil, Nat.reduceAdd, List.set_cons_zero, List.set_cons_succ, getD_zero, getD_succ, fieldAt_zero, fieldAt_succ, thenD, blockD, retR])
    | (refine drawc_off (by first | exact wanted_off1 rfl rfl (by first | assumption | with_reducible rfl | decide) | exact wanted_off0 rfl rfl (by first | assumption | with_reducible rfl | decide)) ?_; dsimp only [putD, DV.cells, DH.new_next, DH.set_next, List.length_cons, List.length_nil, Nat.reduceAdd, List.set_cons_zero, List.set_cons_succ, getD_zero, getD_succ, fieldAt_zero, fieldAt_succ, thenD, blockD, retR])
    | refine dwp_cond_t rfl (by first | assumption | with_reducible rfl | decide) ?_
    | refine dwp_cond_f rfl (by first | assumption | with_reducible rfl | decide) ?_
    | (refine dwp_cond rfl ?_ ?_ <;> intro hb)
    | refine dwp_block ?_
    | refine dwp_skip ?_
    | refine dwp_ret ?_
    | refine dwp_exit ?_
    | dsimp only [thenD, blockD, retR]
    | (refine ⟨_, rfl, ?_⟩; try dsimp only)
    | fail)
  all_goals refine ⟨?_, by first | exact ((Above.refl H).new _).new _ | exact (Above.refl H).new _⟩
  all_goals dsimp only [getD_zero, getD_succ]
  all_goals refine congrArg DV.bool ?_
  all_goals rw [Bool.eq_iff_iff]
  all_goals simp only [eq_self, true_iff, Bool.false_eq_true, false_iff, fitB, okT, Bool.and_eq_true, Bool.not_eq_true', Bool.not_eq_false', Bool.and_eq_false_iff, decide_eq_true_eq, decide_eq_false_iff_not] at *
  all_goals omega

def gOff : G := fun args H => match args with
  | [.agg [.int .u64 _, .int .i64 fr, .int .i64 ch, .int .i64 at_, .int .i64 en, .sl _ n _ _, .bool _, .int .i64 le]] => some (.bool (!fitB fr ch at_ en n le), H)
  | _ => none

theorem off_ok : ExtSound Try.prog gOff 48 := ext_read ok1 Try.func48 rfl rfl (by
  intro args H r H' hw h
  unfold gOff at h
  split at h
  · cases h
    exact ⟨rfl, rfl, off48 H _ _ _ _ _ _ _ _ _ _ _⟩
  · cases h)

/-- Do two meet? -/
def meetB (ch at_ en ch' at' en' : Int) : Bool := decide (ch = ch') && decide (at_ < en') && decide (at' < en)

theorem meet18 (H : DH) (i fr ch at_ en le : Int) (b : Bool) (p : Option (Nat × Nat × Nat)) (n c : Nat) (ex : Bool) (i' fr' ch' at' en' le' : Int) (b' : Bool) (p' : Option (Nat × Nat × Nat)) (n' c' : Nat) (ex' : Bool) : CallWp Try.prog X1 18 [.agg [.int .u64 i, .int .i64 fr, .int .i64 ch, .int .i64 at_, .int .i64 en, .sl p n c ex, .bool b, .int .i64 le], .agg [.int .u64 i', .int .i64 fr', .int .i64 ch', .int .i64 at', .int .i64 en', .sl p' n' c' ex', .bool b', .int .i64 le']] H (fun r H' => r = .bool (meetB ch at_ en ch' at' en') ∧ Above H H') := by
  refine enter rfl Try.func18 rfl Try.ntmps18 rfl ?_
  dsimp only [List.cons_append, List.nil_append, List.length_cons, List.length_nil, List.replicate_succ, List.replicate_zero, Nat.reduceAdd, Nat.reduceSub]
  repeat' (first
    | refine dwp_seq ?_
    | refine dwp_region ?_
    | refine ops_nil ?_
    | (refine ops_plain rfl ?_; (first | refine op_pick_t rfl rfl (by first | assumption | with_reducible rfl | decide) rfl ?_ | refine op_pick_f rfl rfl (by first | assumption | with_reducible rfl | decide) rfl ?_ | refine op_at (opD_load rfl rfl (by repeat (first | exact obj_here rfl | exact obj_set | assumption | refine obj_skip (by (try simp only [DH.new_next, DH.set_next]); omega) ?_ | refine obj_past (by (try simp only [DH.new_next, DH.set_next]); omega) ?_)) rfl rfl) ?_ | refine op_at (opD_store rfl rfl rfl rfl rfl (by repeat (first | exact obj_here rfl | exact obj_set | assumption | refine obj_skip (by (try simp only [DH.new_next, DH.set_next]); omega) ?_ | refine obj_past (by (try simp only [DH.new_next, DH.set_next]); omega) ?_)) rfl) ?_ | refine op_at (opD_eqb rfl rfl rfl rfl) ?_ | refine op_at (opD_neqb rfl rfl rfl rfl) ?_ | refine op_at rfl ?_); dsimp only [putD, DV.cells, DH.new_next, DH.set_next, List.length_cons, List.length_nil, Nat.reduceAdd, List.set_cons_zero, List.set_cons_succ, getD_zero, getD_succ, fieldAt_zero, fieldAt_succ, thenD, blockD, retR])
    | (refine ops_on rfl rfl (by first | assumption | with_reducible rfl | decide) ?_; (first | refine op_pick_t rfl rfl (by first | assumption | with_reducible rfl | decide) rfl ?_ | refine op_pick_f rfl rfl (by first | assumption | with_reducible rfl | decide) rfl ?_ | refine op_at (opD_load rfl rfl (by repeat (first | exact obj_here rfl | exact obj_set | assumption | refine obj_skip (by (try simp only [DH.new_next, DH.set_next]); omega) ?_ | refine obj_past (by (try simp only [DH.new_next, DH.set_next]); omega) ?_)) rfl rfl) ?_ | refine op_at (opD_store rfl rfl rfl rfl rfl (by repeat (first | exact obj_here rfl | exact obj_set | assumption | refine obj_skip (by (try simp only [DH.new_next, DH.set_next]); omega) ?_ | refine obj_past (by (try simp only [DH.new_next, DH.set_next]); omega) ?_)) rfl) ?_ | refine op_at (opD_eqb rfl rfl rfl rfl) ?_ | refine op_at (opD_neqb rfl rfl rfl rfl) ?_ | refine op_at rfl ?_); dsimp only [putD, DV.cells, DH.new_next, DH.set_next, List.length_cons, List.length_nil, Nat.reduceAdd, List.set_cons_zero, List.set_cons_succ, getD_zero, getD_succ, fieldAt_zero, fieldAt_succ, thenD, blockD, retR])
    | (refine ops_off1 rfl rfl (by first | assumption | with_reducible rfl | decide) ?_; dsimp only [putD, DV.cells, DH.new_next, DH.set_next, List.length_cons, List.length_nil, Nat.reduceAdd, List.set_cons_zero, List.set_cons_succ, getD_zero, getD_succ, fieldAt_zero, fieldAt_succ, thenD, blockD, retR])
    | (refine ops_off0 rfl rfl (by first | assumption | with_reducible rfl | decide) ?_; dsimp only [putD, DV.cells, DH.new_next, DH.set_next, List.length_cons, List.length_nil, Nat.reduceAdd, List.set_cons_zero, List.set_cons_succ, getD_zero, getD_succ, fieldAt_zero, fieldAt_succ, thenD, blockD, retR])
    | (refine ops_split1 rfl rfl ?_ ?_ <;> intro hb)
    | (refine ops_split0 rfl rfl ?_ ?_ <;> intro hb)
    | ((first | refine op_pick_t rfl rfl (by first | assumption | with_reducible rfl | decide) rfl ?_ | refine op_pick_f rfl rfl (by first | assumption | with_reducible rfl | decide) rfl ?_ | refine op_at (opD_load rfl rfl (by repeat (first | exact obj_here rfl | exact obj_set | assumption | refine obj_skip (by (try simp only [DH.new_next, DH.set_next]); omega) ?_ | refine obj_past (by (try simp only [DH.new_next, DH.set_next]); omega) ?_)) rfl rfl) ?_ | refine op_at (opD_store rfl rfl rfl rfl rfl (by repeat (first | exact obj_here rfl | exact obj_set | assumption | refine obj_skip (by (try simp only [DH.new_next, DH.set_next]); omega) ?_ | refine obj_past (by (try simp only [DH.new_next, DH.set_next]); omega) ?_)) rfl) ?_ | refine op_at (opD_eqb rfl rfl rfl rfl) ?_ | refine op_at (opD_neqb rfl rfl rfl rfl) ?_ | refine op_at rfl ?_); dsimp only [putD, DV.cells, DH.new_next, DH.set_next, List.length_cons, List.length_nil, Nat.reduceAdd, List.set_cons_zero, List.set_cons_succ, getD_zero, getD_succ, fieldAt_zero, fieldAt_succ, thenD, blockD, retR])
    | refine dwp_drawc _ rfl ?_
    | refine drawc_nil ?_
    | (refine drawc_pure (by first | exact wanted_plain rfl | exact wanted_on rfl rfl (by first | assumption | with_reducible rfl | decide)) rfl rfl rfl ?_; dsimp only [putD, DV.cells, DH.new_next, DH.set_next, List.length_cons, List.length_nil, Nat.reduceAdd, List.set_cons_zero, List.set_cons_succ, getD_zero, getD_succ, fieldAt_zero, fieldAt_succ, thenD, blockD, retR])
    | (refine drawc_read (by first | exact wanted_plain rfl | exact wanted_on rfl rfl (by first | assumption | with_reducible rfl | decide)) rfl rfl (by kernel_rfl) (opD_load rfl rfl (by repeat (first | exact obj_here rfl | exact obj_set | assumption | refine obj_skip (by (try simp only [DH.new_next, DH.set_next]); omega) ?_ | refine obj_past (by (try simp only [DH.new_next, DH.set_next]); omega) ?_)) rfl rfl) ?_; dsimp only [putD, DV.cells, DH.new_next, DH.set_next, List.length_cons, List.length_nil, Nat.reduceAdd, List.set_cons_zero, List.set_cons_succ, getD_zero, getD_succ, fieldAt_zero, fieldAt_succ, thenD, blockD, retR])
    | (refine drawc_read (by first | exact wanted_plain rfl | exact wanted_on rfl rfl (by first | assumption | with_reducible rfl | decide)) rfl rfl (by kernel_rfl) rfl ?_; dsimp only [putD, DV.cells, DH.new_next, DH.set_next, List.length_cons, List.length_nil, Nat.reduceAdd, List.set_cons_zero, List.set_cons_succ, getD_zero, getD_succ, fieldAt_zero, fieldAt_succ, thenD, blockD, retR])
    | (refine drawc_sync (by first | exact wanted_plain rfl | exact wanted_on rfl rfl (by first | assumption | with_reducible rfl | decide)) rfl (by kernel_rfl) ?_; (first | refine op_pick_t rfl rfl (by first | assumption | with_reducible rfl | decide) rfl ?_ | refine op_pick_f rfl rfl (by first | assumption | with_reducible rfl | decide) rfl ?_ | refine op_at (opD_load rfl rfl (by repeat (first | exact obj_here rfl | exact obj_set | assumption | refine obj_skip (by (try simp only [DH.new_next, DH.set_next]); omega) ?_ | refine obj_past (by (try simp only [DH.new_next, DH.set_next]); omega) ?_)) rfl rfl) ?_ | refine op_at (opD_store rfl rfl rfl rfl rfl (by repeat (first | exact obj_here rfl | exact obj_set | assumption | refine obj_skip (by (try simp only [DH.new_next, DH.set_next]); omega) ?_ | refine obj_past (by (try simp only [DH.new_next, DH.set_next]); omega) ?_)) rfl) ?_ | refine op_at (opD_eqb rfl rfl rfl rfl) ?_ | refine op_at (opD_neqb rfl rfl rfl rfl) ?_ | refine op_at rfl ?_); dsimp only [putD, DV.cells, DH.new_next, DH.set_next, List.length_cons, List.length_nil, Nat.reduceAdd, List.set_cons_zero, List.set_cons_succ, getD_zero, getD_succ, fieldAt_zero, fieldAt_succ, thenD, blockD, retR])
    | (refine drawc_off (by first | exact wanted_off1 rfl rfl (by first | assumption | with_reducible rfl | decide) | exact wanted_off0 rfl rfl (by first | assumption | with_reducible rfl | decide)) ?_; dsimp only [putD, DV.cells, DH.new_next, DH.set_next, List.length_cons, List.length_nil, Nat.reduceAdd, List.set_cons_zero, List.set_cons_succ, getD_zero, getD_succ, fieldAt_zero, fieldAt_succ, thenD, blockD, retR])
    | refine dwp_cond_t rfl (by first | assumption | with_reducible rfl | decide) ?_
    | refine dwp_cond_f rfl (by first | assumption | with_reducible rfl | decide) ?_
    | (refine dwp_cond rfl ?_ ?_ <;> intro hb)
    | refine dwp_block ?_
    | refine dwp_skip ?_
    | refine dwp_ret ?_
    | refine dwp_exit ?_
    | dsimp only [thenD, blockD, retR]
    | (refine ⟨_, rfl, ?_⟩; try dsimp only)
    | fail)
  all_goals refine ⟨?_, ((Above.refl H).new _).new _⟩
  all_goals dsimp only [getD_zero, getD_succ]
  all_goals refine congrArg DV.bool ?_
  all_goals rw [Bool.eq_iff_iff]
  all_goals simp only [eq_self, true_iff, meetB, Bool.and_eq_true, Bool.not_eq_true', Bool.not_eq_false', Bool.and_eq_false_iff, decide_eq_true_eq, decide_eq_false_iff_not, beq_iff_eq, beq_eq_false_iff_ne, Bool.false_eq_true, false_iff] at *
  all_goals omega

def gMeet : G := fun args H => match args with
  | [.agg [.int .u64 _, .int .i64 _, .int .i64 ch, .int .i64 at_, .int .i64 en, .sl _ _ _ _, .bool _, .int .i64 _], .agg [.int .u64 _, .int .i64 _, .int .i64 ch', .int .i64 at', .int .i64 en', .sl _ _ _ _, .bool _, .int .i64 _]] => some (.bool (meetB ch at_ en ch' at' en'), H)
  | _ => none

theorem meet_ok : ExtSound Try.prog gMeet 18 := ext_read ok1 Try.func18 rfl rfl (by
  intro args H r H' hw h
  unfold gMeet at h
  split at h
  · cases h
    exact ⟨rfl, rfl, meet18 H _ _ _ _ _ _ _ _ _ _ _ _ _ _ _ _ _ _ _ _ _ _⟩
  · cases h)

def E2 : List (FuncId × G) := [(15, gLive), (72, gMay), (48, gOff), (18, gMeet)]
theorem okE2 : ∀ f g, (f, g) ∈ E2 → ExtSound Try.prog g f := by
  intro f g h
  simp only [E2, List.mem_cons, List.not_mem_nil, or_false, Prod.mk.injEq] at h
  rcases h with ⟨rfl, rfl⟩ | ⟨rfl, rfl⟩ | ⟨rfl, rfl⟩ | ⟨rfl, rfl⟩
  · exact live_ok
  · exact may_ok
  · exact off_ok
  · exact meet_ok
def X2 : Ext := Xof L E2
theorem ok2 : ProgOk Try.prog X2 := progOk_of mixed okL okE2

end Go.Det.M11
