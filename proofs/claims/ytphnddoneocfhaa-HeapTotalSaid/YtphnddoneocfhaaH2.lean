/- HeapTotal. -/
import Derived.Test.YtphnddoneocfhaaH1
import Derived.Test.YtphnddoneocfhaaD25
namespace Go.Det.H04
open Go Go.Det Go.Proofs
set_option maxRecDepth 4000
set_option maxHeartbeats 2000000
set_option linter.unusedVariables false
set_option linter.unusedSimpArgs false

def X3 : Ext := Xof L E3
theorem ok3 : ProgOk Try.prog X3 := progOk_of mixed okL okE3

/-! ### the plain law -/
theorem cmpI_zero (x y : Int) : cmpI x y = 0 ↔ x = y := by unfold cmpI; split <;> (try split) <;> omega
theorem cmpI_neg (x y : Int) : cmpI x y < 0 ↔ x < y := by unfold cmpI; split <;> (try split) <;> omega
theorem cmpI_not (x y : Int) (h : cmpI x y ≠ 0) : cmpI x y < 0 ∨ cmpI y x < 0 := by rw [Ne, cmpI_zero] at h; rw [cmpI_neg, cmpI_neg]; omega

theorem cmpL_cons (x y : Int) (xs ys : List Int) : cmpL (x :: xs) (y :: ys) = if cmpI x y = 0 then cmpL xs ys else cmpI x y := rfl

/-- It comes first in the first place where they differ. -/
theorem cmpL_neg : ∀ (xs ys : List Int) (x y : Int), cmpL (x :: xs) (y :: ys) < 0 ↔ x < y ∨ (x = y ∧ cmpL xs ys < 0) := by
  intro xs ys x y
  rw [cmpL_cons]
  split
  · rename_i h; rw [cmpI_zero] at h; omega
  · rename_i h; rw [cmpI_zero] at h; rw [cmpI_neg]; omega

theorem cmpL_asym : ∀ (xs ys : List Int), cmpL xs ys < 0 → ¬ cmpL ys xs < 0
  | [], [], h => by simp [cmpL] at h
  | [], _ :: _, h => by simp [cmpL] at h
  | _ :: _, [], h => by simp [cmpL] at h
  | x :: xs, y :: ys, h => by
    rw [cmpL_neg] at h ⊢
    have := cmpL_asym xs ys
    omega

theorem cmpL_total : ∀ (xs ys : List Int), xs.length = ys.length → (¬ cmpL xs ys < 0 ∧ ¬ cmpL ys xs < 0 ↔ xs = ys)
  | [], [], _ => by simp [cmpL]
  | [], _ :: _, h => by simp at h
  | _ :: _, [], h => by simp at h
  | x :: xs, y :: ys, h => by
    have ih := cmpL_total xs ys (by simpa using h)
    rw [cmpL_neg, cmpL_neg, List.cons.injEq, ← ih]
    omega

theorem cmpL_trans : ∀ (xs ys zs : List Int), cmpL xs ys < 0 → cmpL ys zs < 0 → cmpL xs zs < 0
  | [], _, _, h, _ => by simp [cmpL] at h
  | _ :: _, [], _, h, _ => by simp [cmpL] at h
  | _ :: _, _ :: _, [], _, h => by simp [cmpL] at h
  | x :: xs, y :: ys, z :: zs, h, k => by
    rw [cmpL_neg] at *
    have := cmpL_trans xs ys zs
    omega

theorem eqItem (a b c d e f a' b' c' d' e' f' : Int) : eqD Try.prog 38 (.agg [.int .i64 a, .int .i64 b, .int .u64 c, .int .i64 d, .int .i64 e, .int .u64 f]) (.agg [.int .i64 a', .int .i64 b', .int .u64 c', .int .i64 d', .int .i64 e', .int .u64 f']) = some (decide ([a, b, c, d, e, f] = [a', b', c', d', e', f'])) := by
  have h : eqD Try.prog 38 (.agg [.int .i64 a, .int .i64 b, .int .u64 c, .int .i64 d, .int .i64 e, .int .u64 f]) (.agg [.int .i64 a', .int .i64 b', .int .u64 c', .int .i64 d', .int .i64 e', .int .u64 f']) = andO (a == a') (andO (b == b') (andO (c == c') (andO (d == d') (andO (e == e') (andO (f == f') (some true)))))) := by kernel_rfl
  rw [h]
  simp only [andO_some]
  refine congrArg some ?_
  rw [Bool.eq_iff_iff]
  simp

theorem run5 (H : DH) (a b c d e f a' b' c' d' e' f' a'' b'' c'' d'' e'' f'' : Int) : CallWp Try.prog X3 5 [.agg [.int .i64 a, .int .i64 b, .int .u64 c, .int .i64 d, .int .i64 e, .int .u64 f], .agg [.int .i64 a', .int .i64 b', .int .u64 c', .int .i64 d', .int .i64 e', .int .u64 f'], .agg [.int .i64 a'', .int .i64 b'', .int .u64 c'', .int .i64 d'', .int .i64 e'', .int .u64 f'']] H (fun r _ => r = .bool true) := by
  refine enter rfl Try.func5 rfl Try.ntmps5 rfl ?_
  dsimp only [List.cons_append, List.nil_append, List.length_cons, List.length_nil, List.replicate_succ, List.replicate_zero, Nat.reduceAdd, Nat.reduceSub]
  repeat' (first
    | refine dwp_seq ?_
    | refine dwp_region ?_
    | refine ops_nil ?_
    | (refine ops_plain rfl ?_; (first | (refine op_call rfl rfl rfl ?_; refine call_table (g := gLive) rfl rfl ?_) | (refine op_call rfl rfl rfl ?_; refine call_table (g := g22) rfl rfl ?_) | refine op_pick_t rfl rfl (by first | assumption | with_reducible rfl | decide) rfl ?_ | refine op_pick_f rfl rfl (by first | assumption | with_reducible rfl | decide) rfl ?_ | refine op_at (opD_eql rfl rfl rfl (eqItem _ _ _ _ _ _ _ _ _ _ _ _)) ?_ | refine op_at (opD_load rfl rfl (by repeat (first | exact obj_here rfl | exact obj_set | assumption | refine obj_skip (by simp only [DH.new_next, DH.set_next]; omega) ?_ | refine obj_past (by simp only [DH.new_next, DH.set_next]; omega) ?_)) rfl rfl) ?_ | refine op_at (opD_store rfl rfl rfl rfl rfl (by repeat (first | exact obj_here rfl | exact obj_set | assumption | refine obj_skip (by simp only [DH.new_next, DH.set_next]; omega) ?_ | refine obj_past (by simp only [DH.new_next, DH.set_next]; omega) ?_)) rfl) ?_ | refine op_at (opD_eqb rfl rfl rfl rfl) ?_ | refine op_at (opD_neqb rfl rfl rfl rfl) ?_ | refine op_at rfl ?_); dsimp only [putD, DV.cells, DH.new_next, DH.set_next, List.length_cons, List.length_nil, Nat.reduceAdd, List.set_cons_zero, List.set_cons_succ, getD_zero, getD_succ, fieldAt_zero, fieldAt_succ, thenD, blockD, retR])
    | (refine ops_on rfl rfl (by first | assumption | with_reducible rfl | decide) ?_; (first | (refine op_call rfl rfl rfl ?_; refine call_table (g := gLive) rfl rfl ?_) | (refine op_call rfl rfl rfl ?_; refine call_table (g := g22) rfl rfl ?_) | refine op_pick_t rfl rfl (by first | assumption | with_reducible rfl | decide) rfl ?_ | refine op_pick_f rfl rfl (by first | assumption | with_reducible rfl | decide) rfl ?_ | refine op_at (opD_eql rfl rfl rfl (eqItem _ _ _ _ _ _ _ _ _ _ _ _)) ?_ | refine op_at (opD_load rfl rfl (by repeat (first | exact obj_here rfl | exact obj_set | assumption | refine obj_skip (by simp only [DH.new_next, DH.set_next]; omega) ?_ | refine obj_past (by simp only [DH.new_next, DH.set_next]; omega) ?_)) rfl rfl) ?_ | refine op_at (opD_store rfl rfl rfl rfl rfl (by repeat (first | exact obj_here rfl | exact obj_set | assumption | refine obj_skip (by simp only [DH.new_next, DH.set_next]; omega) ?_ | refine obj_past (by simp only [DH.new_next, DH.set_next]; omega) ?_)) rfl) ?_ | refine op_at (opD_eqb rfl rfl rfl rfl) ?_ | refine op_at (opD_neqb rfl rfl rfl rfl) ?_ | refine op_at rfl ?_); dsimp only [putD, DV.cells, DH.new_next, DH.set_next, List.length_cons, List.length_nil, Nat.reduceAdd, List.set_cons_zero, List.set_cons_succ, getD_zero, getD_succ, fieldAt_zero, fieldAt_succ, thenD, blockD, retR])
    | (refine ops_off1 rfl rfl (by first | assumption | with_reducible rfl | decide) ?_; dsimp only [putD, DV.cells, DH.new_next, DH.set_next, List.length_cons, List.length_nil, Nat.reduceAdd, List.set_cons_zero, List.set_cons_succ, getD_zero, getD_succ, fieldAt_zero, fieldAt_succ, thenD, blockD, retR])
    | (refine ops_off0 rfl rfl (by first | assumption | with_reducible rfl | decide) ?_; dsimp only [putD, DV.cells, DH.new_next, DH.set_next, List.length_cons, List.length_nil, Nat.reduceAdd, List.set_cons_zero, List.set_cons_succ, getD_zero, getD_succ, fieldAt_zero, fieldAt_succ, thenD, blockD, retR])
    | (refine ops_split1 rfl rfl ?_ ?_ <;> intro hb)
    | (refine ops_split0 rfl rfl ?_ ?_ <;> intro hb)
    | ((first | (refine op_call rfl rfl rfl ?_; refine call_table (g := gLive) rfl rfl ?_) | (refine op_call rfl rfl rfl ?_; refine call_table (g := g22) rfl rfl ?_) | refine op_pick_t rfl rfl (by first | assumption | with_reducible rfl | decide) rfl ?_ | refine op_pick_f rfl rfl (by first | assumption | with_reducible rfl | decide) rfl ?_ | refine op_at (opD_eql rfl rfl rfl (eqItem _ _ _ _ _ _ _ _ _ _ _ _)) ?_ | refine op_at (opD_load rfl rfl (by repeat (first | exact obj_here rfl | exact obj_set | assumption | refine obj_skip (by simp only [DH.new_next, DH.set_next]; omega) ?_ | refine obj_past (by simp only [DH.new_next, DH.set_next]; omega) ?_)) rfl rfl) ?_ | refine op_at (opD_store rfl rfl rfl rfl rfl (by repeat (first | exact obj_here rfl | exact obj_set | assumption | refine obj_skip (by simp only [DH.new_next, DH.set_next]; omega) ?_ | refine obj_past (by simp only [DH.new_next, DH.set_next]; omega) ?_)) rfl) ?_ | refine op_at (opD_eqb rfl rfl rfl rfl) ?_ | refine op_at (opD_neqb rfl rfl rfl rfl) ?_ | refine op_at rfl ?_); dsimp only [putD, DV.cells, DH.new_next, DH.set_next, List.length_cons, List.length_nil, Nat.reduceAdd, List.set_cons_zero, List.set_cons_succ, getD_zero, getD_succ, fieldAt_zero, fieldAt_succ, thenD, blockD, retR])
    | refine dwp_drawc _ rfl ?_
    | refine drawc_nil ?_
    | (refine drawc_pure (by first | exact wanted_plain rfl | exact wanted_on rfl rfl (by first | assumption | with_reducible rfl | decide)) rfl rfl rfl ?_; dsimp only [putD, DV.cells, DH.new_next, DH.set_next, List.length_cons, List.length_nil, Nat.reduceAdd, List.set_cons_zero, List.set_cons_succ, getD_zero, getD_succ, fieldAt_zero, fieldAt_succ, thenD, blockD, retR])
    | (refine drawc_read (by first | exact wanted_plain rfl | exact wanted_on rfl rfl (by first | assumption | with_reducible rfl | decide)) rfl rfl (by kernel_rfl) (opD_load rfl rfl (by repeat (first | exact obj_here rfl | exact obj_set | assumption | refine obj_skip (by simp only [DH.new_next, DH.set_next]; omega) ?_ | refine obj_past (by simp only [DH.new_next, DH.set_next]; omega) ?_)) rfl rfl) ?_; dsimp only [putD, DV.cells, DH.new_next, DH.set_next, List.length_cons, List.length_nil, Nat.reduceAdd, List.set_cons_zero, List.set_cons_succ, getD_zero, getD_succ, fieldAt_zero, fieldAt_succ, thenD, blockD, retR])
    | (refine drawc_read (by first | exact wanted_plain rfl | exact wanted_on rfl rfl (by first | assumption | with_reducible rfl | decide)) rfl rfl (by kernel_rfl) rfl ?_; dsimp only [putD, DV.cells, DH.new_next, DH.set_next, List.length_cons, List.length_nil, Nat.reduceAdd, List.set_cons_zero, List.set_cons_succ, getD_zero, getD_succ, fieldAt_zero, fieldAt_succ, thenD, blockD, retR])
    | (refine drawc_same (by first | exact wanted_plain rfl | exact wanted_on rfl rfl (by first | assumption | with_reducible rfl | decide)) rfl (by kernel_rfl) ?_; (first | (refine op_call rfl rfl rfl ?_; refine call_table (g := gLive) rfl rfl ?_; refine ⟨rfl, ?_⟩) | (refine op_call rfl rfl rfl ?_; refine call_table (g := g22) rfl rfl ?_; refine ⟨rfl, ?_⟩)); dsimp only [putD, DV.cells, DH.new_next, DH.set_next, List.length_cons, List.length_nil, Nat.reduceAdd, List.set_cons_zero, List.set_cons_succ, getD_zero, getD_succ, fieldAt_zero, fieldAt_succ, thenD, blockD, retR])
    | (refine drawc_sync (by first | exact wanted_plain rfl | exact wanted_on rfl rfl (by first | assumption | with_reducible rfl | decide)) rfl (by kernel_rfl) ?_; (first | (refine op_call rfl rfl rfl ?_; refine call_table (g := gLive) rfl rfl ?_) | (refine op_call rfl rfl rfl ?_; refine call_table (g := g22) rfl rfl ?_) | refine op_pick_t rfl rfl (by first | assumption | with_reducible rfl | decide) rfl ?_ | refine op_pick_f rfl rfl (by first | assumption | with_reducible rfl | decide) rfl ?_ | refine op_at (opD_eql rfl rfl rfl (eqItem _ _ _ _ _ _ _ _ _ _ _ _)) ?_ | refine op_at (opD_load rfl rfl (by repeat (first | exact obj_here rfl | exact obj_set | assumption | refine obj_skip (by simp only [DH.new_next, DH.set_next]; omega) ?_ | refine obj_past (by simp only [DH.new_next, DH.set_next]; omega) ?_)) rfl rfl) ?_ | refine op_at (opD_store rfl rfl rfl rfl rfl (by repeat (first | exact obj_here rfl | exact obj_set | assumption | refine obj_skip (by simp only [DH.new_next, DH.set_next]; omega) ?_ | refine obj_past (by simp only [DH.new_next, DH.set_next]; omega) ?_)) rfl) ?_ | refine op_at (opD_eqb rfl rfl rfl rfl) ?_ | refine op_at (opD_neqb rfl rfl rfl rfl) ?_ | refine op_at rfl ?_); dsimp only [putD, DV.cells, DH.new_next, DH.set_next, List.length_cons, List.length_nil, Nat.reduceAdd, List.set_cons_zero, List.set_cons_succ, getD_zero, getD_succ, fieldAt_zero, fieldAt_succ, thenD, blockD, retR])
    | (refine drawc_off (by first | exact wanted_off1 rfl rfl (by first | assumption | with_reducible rfl | decide) | exact wanted_off0 rfl rfl (by first | assumption | with_reducible rfl | decide)) ?_; dsimp only [putD, DV.cells, DH.new_next, DH.set_next, List.length_cons, List.length_nil, Nat.reduceAdd, List.set_cons_zero, List.set_cons_succ, getD_zero, getD_succ, fieldAt_zero, fieldAt_succ, thenD, blockD, retR])
    | refine dwp_cond_t rfl (by first | assumption | with_reducible rfl | decide) ?_
    | refine dwp_cond_f rfl (by first | assumption | with_reducible rfl | decide) ?_
    | (refine dwp_cond rfl ?_ ?_ <;> intro hb)
    | refine dwp_block ?_
    | refine dwp_skip ?_
    | refine dwp_ret ?_
    | refine dwp_exit ?_
    | dsimp only [thenD, blockD, retR])
  all_goals have h1 := cmpL_asym [a, b, c, d, e, f] [a', b', c', d', e', f']
  all_goals have h2 := cmpL_total [a, b, c, d, e, f] [a', b', c', d', e', f'] rfl
  all_goals have h3 := cmpL_trans [a, b, c, d, e, f] [a', b', c', d', e', f'] [a'', b'', c'', d'', e'', f'']
  all_goals generalize [a, b, c, d, e, f] = A at *
  all_goals generalize [a', b', c', d', e', f'] = B at *
  all_goals generalize [a'', b'', c'', d'', e'', f''] = C at *
  all_goals (try simp only [decide_eq_true_eq, decide_eq_false_iff_not, Bool.not_eq_true', Bool.not_eq_false', Bool.not_not] at *)
  all_goals first
    | (exfalso; simp_all; done)
    | (refine ⟨_, rfl, ?_⟩; simp_all; done)
    | (exfalso; by_cases hq : cmpL B A < 0 <;> by_cases he : A = B <;> simp_all <;> omega)

theorem law5 (H : DH) (xs : List DV) (hx : TArgs Try.prog H [38, 38, 38] xs) : ∃ k H', callD Try.prog X3 k 5 xs H = some (.bool true, H') := by
  match xs, hx with
  | [x, y, z], ⟨h1, h2, h3, _⟩ =>
    obtain ⟨d1, rfl, t1⟩ := targ_agg Try.underlying38 h1
    obtain ⟨d2, rfl, t2⟩ := targ_agg Try.underlying38 h2
    obtain ⟨d3, rfl, t3⟩ := targ_agg Try.underlying38 h3
    obtain ⟨a, b, c, d, e, f, rfl⟩ := item_of t1
    obtain ⟨a', b', c', d', e', f', rfl⟩ := item_of t2
    obtain ⟨a'', b'', c'', d'', e'', f'', rfl⟩ := item_of t3
    obtain ⟨k, r, H', hk, rfl⟩ := (run5 H a b c d e f a' b' c' d' e' f' a'' b'' c'' d'' e'' f'').ex
    exact ⟨k, H', hk⟩

end Go.Det.H04
