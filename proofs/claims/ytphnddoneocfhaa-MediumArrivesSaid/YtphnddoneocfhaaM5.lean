/- Check as a table; lists of things out of rows. -/
import Derived.Test.YtphnddoneocfhaaM4
namespace Go.Det.M11
open Go Go.Det Go.Proofs
set_option maxRecDepth 4000
set_option maxHeartbeats 4000000
set_option linter.unusedVariables false
set_option linter.unusedSimpArgs false

def airOf : List DV → Option AirV
  | [.int .u64 id, .int .i64 fr, .int .i64 ch, .int .i64 at_, .int .i64 en, .sl p n c ex, .bool bad, .int .i64 le] => some ⟨id, fr, ch, at_, en, p, n, c, ex, bad, le⟩
  | _ => none

theorem airOf_cells (a : AirV) : airOf a.cells = some a := rfl
theorem cells_airOf {r : List DV} {a : AirV} (h : airOf r = some a) : r = a.cells := by
  unfold airOf at h
  split at h
  · cases h; rfl
  · cases h

def airsOf : List (List DV) → Option (List AirV)
  | [] => some []
  | r :: rs => match airOf r, airsOf rs with
    | some a, some l => some (a :: l)
    | _, _ => none

theorem airsOf_map : ∀ (l : List AirV), airsOf (l.map AirV.cells) = some l
  | [] => rfl
  | a :: l => by simp only [List.map_cons, airsOf, airOf_cells, airsOf_map l]
theorem map_airsOf : ∀ {rs : List (List DV)} {l : List AirV}, airsOf rs = some l → rs = l.map AirV.cells
  | [], l, h => by simp only [airsOf] at h; cases h; rfl
  | r :: rs, l, h => by
    simp only [airsOf] at h
    split at h
    · rename_i a l' h1 h2
      cases h
      rw [List.map_cons, cells_airOf h1, map_airsOf h2]
    · cases h

/-- The things that a slice holds. -/
def thingsOf (H : DH) : DV → Option (List AirV)
  | .sl none 0 0 true => some []
  | .sl (some (loc, i, 8)) n _ _ => match H.obj loc with
    | some (.rows _ 8 rs) => match airsOf ((rs.drop i).take n) with
      | some l => if l.length = n ∧ n ≤ maxLen then some l else none
      | none => none
    | _ => none
  | _ => none

/-- A slice of things is nil, or lies somewhere. -/
theorem things_cases {H : DH} {s : DV} {l : List AirV} (h : thingsOf H s = some l) : (s = .sl none 0 0 true ∧ l = []) ∨ ∃ loc i c ex, s = .sl (some (loc, i, 8)) l.length c ex ∧ Lies H loc i l ∧ l.length ≤ maxLen := by
  unfold thingsOf at h
  split at h
  · cases h; exact .inl ⟨rfl, rfl⟩
  · rename_i loc i n c ex
    split at h
    · rename_i ro rs ho
      split at h
      · rename_i l' hl
        split at h
        · rename_i hn
          cases h
          refine .inr ⟨loc, i, c, ex, by rw [hn.1], ⟨ro, rs, ho, fun k a hk => ?_⟩, by rw [hn.1]; exact hn.2⟩
          have hm := map_airsOf hl
          have h1 : (l.map AirV.cells)[k]? = some a.cells := by rw [List.getElem?_map, hk]; rfl
          rw [← hm, List.getElem?_take] at h1
          split at h1
          · rw [List.getElem?_drop] at h1; exact h1
          · cases h1
        · cases h
      · cases h
    · cases h
  · cases h

theorem things_at {H : DH} {loc i c : Nat} {ex : Bool} {l : List AirV} (hl : Lies H loc i l) (hlen : l.length ≤ maxLen) : thingsOf H (.sl (some (loc, i, 8)) l.length c ex) = some l := by
  obtain ⟨ro, rs, ho, hrow⟩ := hl
  have e : (rs.drop i).take l.length = l.map AirV.cells := by
    apply List.ext_getElem?
    intro k
    rw [List.getElem?_take, List.getElem?_map, List.getElem?_drop]
    split
    · rename_i hk
      rw [List.getElem?_eq_getElem hk]
      exact hrow k _ (List.getElem?_eq_getElem hk)
    · rename_i hk
      rw [List.getElem?_eq_none (by omega)]
      rfl
  simp only [thingsOf, ho, e, airsOf_map]
  rw [if_pos ⟨trivial, hlen⟩]

def gCheck : G := fun args H => match args with
  | [s] => match thingsOf H s with
    | some l => some (.int .i64 (checkI l), H)
    | none => none
  | _ => none

theorem nil_contains (H : DH) (K : DV → DH → Prop) (h : K (.bool false) H) : CallWp Try.prog X2 51 [.sl none 0 0 true, .func (.func 48) [] []] H K := by
  refine enter rfl Try.func51 rfl Try.ntmps51 rfl ?_
  dsimp only [List.cons_append, List.nil_append, List.length_cons, List.length_nil, List.replicate_succ, List.replicate_zero, Nat.reduceAdd, Nat.reduceSub]
  repeat' (first
    | refine dwp_seq ?_
    | refine dwp_region ?_
    | refine ops_nil ?_
    | refine dwp_round ?_
    | (refine ops_plain rfl ?_; (first | (refine op_call rfl rfl rfl ?_; refine enter rfl Try.func64 rfl Try.ntmps64 rfl ?_; dsimp only [List.cons_append, List.nil_append, List.length_cons, List.length_nil, List.replicate_succ, List.replicate_zero, Nat.reduceAdd, Nat.reduceSub]) | refine op_pick_t rfl rfl (by first | assumption | with_reducible rfl | decide) rfl ?_ | refine op_pick_f rfl rfl (by first | assumption | with_reducible rfl | decide) rfl ?_ | refine op_at (opD_load rfl rfl (by repeat (first | exact obj_here rfl | exact obj_set | assumption | refine obj_skip (by (try simp only [DH.new_next, DH.set_next]); omega) ?_ | refine obj_past (by (try simp only [DH.new_next, DH.set_next]); omega) ?_)) rfl rfl) ?_ | refine op_at (opD_store rfl rfl rfl rfl rfl (by repeat (first | exact obj_here rfl | exact obj_set | assumption | refine obj_skip (by (try simp only [DH.new_next, DH.set_next]); omega) ?_ | refine obj_past (by (try simp only [DH.new_next, DH.set_next]); omega) ?_)) rfl) ?_ | refine op_at (opD_eqb rfl rfl rfl rfl) ?_ | refine op_at (opD_neqb rfl rfl rfl rfl) ?_ | refine op_at rfl ?_); dsimp only [putD, DV.cells, DH.new_next, DH.set_next, List.length_cons, List.length_nil, Nat.reduceAdd, List.set_cons_zero, List.set_cons_succ, getD_zero, getD_succ, fieldAt_zero, fieldAt_succ, thenD, blockD, retR])
    | (refine ops_on rfl rfl (by first | assumption | with_reducible rfl | decide) ?_; (first | (refine op_call rfl rfl rfl ?_; refine enter rfl Try.func64 rfl Try.ntmps64 rfl ?_; dsimp only [List.cons_append, List.nil_append, List.length_cons, List.length_nil, List.replicate_succ, List.replicate_zero, Nat.reduceAdd, Nat.reduceSub]) | refine op_pick_t rfl rfl (by first | assumption | with_reducible rfl | decide) rfl ?_ | refine op_pick_f rfl rfl (by first | assumption | with_reducible rfl | decide) rfl ?_ | refine op_at (opD_load rfl rfl (by repeat (first | exact obj_here rfl | exact obj_set | assumption | refine obj_skip (by (try simp only [DH.new_next, DH.set_next]); omega) ?_ | refine obj_past (by (try simp only [DH.new_next, DH.set_next]); omega) ?_)) rfl rfl) ?_ | refine op_at (opD_store rfl rfl rfl rfl rfl (by repeat (first | exact obj_here rfl | exact obj_set | assumption | refine obj_skip (by (try simp only [DH.new_next, DH.set_next]); omega) ?_ | refine obj_past (by (try simp only [DH.new_next, DH.set_next]); omega) ?_)) rfl) ?_ | refine op_at (opD_eqb rfl rfl rfl rfl) ?_ | refine op_at (opD_neqb rfl rfl rfl rfl) ?_ | refine op_at rfl ?_); dsimp only [putD, DV.cells, DH.new_next, DH.set_next, List.length_cons, List.length_nil, Nat.reduceAdd, List.set_cons_zero, List.set_cons_succ, getD_zero, getD_succ, fieldAt_zero, fieldAt_succ, thenD, blockD, retR])
    | (refine ops_off1 rfl rfl (by first | assumption | with_reducible rfl | decide) ?_; dsimp only [putD, DV.cells, DH.new_next, DH.set_next, List.length_cons, List.length_nil, Nat.reduceAdd, List.set_cons_zero, List.set_cons_succ, getD_zero, getD_succ, fieldAt_zero, fieldAt_succ, thenD, blockD, retR])
    | (refine ops_off0 rfl rfl (by first | assumption | with_reducible rfl | decide) ?_; dsimp only [putD, DV.cells, DH.new_next, DH.set_next, List.length_cons, List.length_nil, Nat.reduceAdd, List.set_cons_zero, List.set_cons_succ, getD_zero, getD_succ, fieldAt_zero, fieldAt_succ, thenD, blockD, retR])
    | (refine ops_split1 rfl rfl ?_ ?_ <;> intro hb)
    | (refine ops_split0 rfl rfl ?_ ?_ <;> intro hb)
    | ((first | (refine op_call rfl rfl rfl ?_; refine enter rfl Try.func64 rfl Try.ntmps64 rfl ?_; dsimp only [List.cons_append, List.nil_append, List.length_cons, List.length_nil, List.replicate_succ, List.replicate_zero, Nat.reduceAdd, Nat.reduceSub]) | refine op_pick_t rfl rfl (by first | assumption | with_reducible rfl | decide) rfl ?_ | refine op_pick_f rfl rfl (by first | assumption | with_reducible rfl | decide) rfl ?_ | refine op_at (opD_load rfl rfl (by repeat (first | exact obj_here rfl | exact obj_set | assumption | refine obj_skip (by (try simp only [DH.new_next, DH.set_next]); omega) ?_ | refine obj_past (by (try simp only [DH.new_next, DH.set_next]); omega) ?_)) rfl rfl) ?_ | refine op_at (opD_store rfl rfl rfl rfl rfl (by repeat (first | exact obj_here rfl | exact obj_set | assumption | refine obj_skip (by (try simp only [DH.new_next, DH.set_next]); omega) ?_ | refine obj_past (by (try simp only [DH.new_next, DH.set_next]); omega) ?_)) rfl) ?_ | refine op_at (opD_eqb rfl rfl rfl rfl) ?_ | refine op_at (opD_neqb rfl rfl rfl rfl) ?_ | refine op_at rfl ?_); dsimp only [putD, DV.cells, DH.new_next, DH.set_next, List.length_cons, List.length_nil, Nat.reduceAdd, List.set_cons_zero, List.set_cons_succ, getD_zero, getD_succ, fieldAt_zero, fieldAt_succ, thenD, blockD, retR])
    | refine dwp_cond_t rfl (by first | assumption | with_reducible rfl | decide) ?_
    | refine dwp_cond_f rfl (by first | assumption | with_reducible rfl | decide) ?_
    | (refine dwp_cond rfl ?_ ?_ <;> intro hb)
    | refine dwp_block ?_
    | refine dwp_skip ?_
    | refine dwp_ret ?_
    | refine dwp_exit ?_
    | dsimp only [thenD, blockD, retR]
    | (refine ⟨_, rfl, ?_⟩; try dsimp only)
    | fail)
  all_goals exact h

theorem nil_check (H : DH) : CallWp Try.prog X2 19 [.sl none 0 0 true] H (fun r H' => r = .int .i64 0 ∧ H' = H) := by
  refine enter rfl Try.func19 rfl Try.ntmps19 rfl ?_
  dsimp only [List.cons_append, List.nil_append, List.length_cons, List.length_nil, List.replicate_succ, List.replicate_zero, Nat.reduceAdd, Nat.reduceSub]
  repeat' (first
    | refine dwp_seq ?_
    | refine dwp_region ?_
    | refine ops_nil ?_
    | refine dwp_round ?_
    | (refine ops_plain rfl ?_; (first | (refine op_call rfl rfl rfl ?_; refine nil_contains _ _ ?_) | refine op_pick_t rfl rfl (by first | assumption | with_reducible rfl | decide) rfl ?_ | refine op_pick_f rfl rfl (by first | assumption | with_reducible rfl | decide) rfl ?_ | refine op_at (opD_load rfl rfl (by repeat (first | exact obj_here rfl | exact obj_set | assumption | refine obj_skip (by (try simp only [DH.new_next, DH.set_next]); omega) ?_ | refine obj_past (by (try simp only [DH.new_next, DH.set_next]); omega) ?_)) rfl rfl) ?_ | refine op_at (opD_store rfl rfl rfl rfl rfl (by repeat (first | exact obj_here rfl | exact obj_set | assumption | refine obj_skip (by (try simp only [DH.new_next, DH.set_next]); omega) ?_ | refine obj_past (by (try simp only [DH.new_next, DH.set_next]); omega) ?_)) rfl) ?_ | refine op_at (opD_eqb rfl rfl rfl rfl) ?_ | refine op_at (opD_neqb rfl rfl rfl rfl) ?_ | refine op_at rfl ?_); dsimp only [putD, DV.cells, DH.new_next, DH.set_next, List.length_cons, List.length_nil, Nat.reduceAdd, List.set_cons_zero, List.set_cons_succ, getD_zero, getD_succ, fieldAt_zero, fieldAt_succ, thenD, blockD, retR])
    | (refine ops_on rfl rfl (by first | assumption | with_reducible rfl | decide) ?_; (first | (refine op_call rfl rfl rfl ?_; refine nil_contains _ _ ?_) | refine op_pick_t rfl rfl (by first | assumption | with_reducible rfl | decide) rfl ?_ | refine op_pick_f rfl rfl (by first | assumption | with_reducible rfl | decide) rfl ?_ | refine op_at (opD_load rfl rfl (by repeat (first | exact obj_here rfl | exact obj_set | assumption | refine obj_skip (by (try simp only [DH.new_next, DH.set_next]); omega) ?_ | refine obj_past (by (try simp only [DH.new_next, DH.set_next]); omega) ?_)) rfl rfl) ?_ | refine op_at (opD_store rfl rfl rfl rfl rfl (by repeat (first | exact obj_here rfl | exact obj_set | assumption | refine obj_skip (by (try simp only [DH.new_next, DH.set_next]); omega) ?_ | refine obj_past (by (try simp only [DH.new_next, DH.set_next]); omega) ?_)) rfl) ?_ | refine op_at (opD_eqb rfl rfl rfl rfl) ?_ | refine op_at (opD_neqb rfl rfl rfl rfl) ?_ | refine op_at rfl ?_); dsimp only [putD, DV.cells, DH.new_next, DH.set_next, List.length_cons, List.length_nil, Nat.reduceAdd, List.set_cons_zero, List.set_cons_succ, getD_zero, getD_succ, fieldAt_zero, fieldAt_succ, thenD, blockD, retR])
    | (refine ops_off1 rfl rfl (by first | assumption | with_reducible rfl | decide) ?_; dsimp only [putD, DV.cells, DH.new_next, DH.set_next, List.length_cons, List.length_nil, Nat.reduceAdd, List.set_cons_zero, List.set_cons_succ, getD_zero, getD_succ, fieldAt_zero, fieldAt_succ, thenD, blockD, retR])
    | (refine ops_off0 rfl rfl (by first | assumption | with_reducible rfl | decide) ?_; dsimp only [putD, DV.cells, DH.new_next, DH.set_next, List.length_cons, List.length_nil, Nat.reduceAdd, List.set_cons_zero, List.set_cons_succ, getD_zero, getD_succ, fieldAt_zero, fieldAt_succ, thenD, blockD, retR])
    | (refine ops_split1 rfl rfl ?_ ?_ <;> intro hb)
    | (refine ops_split0 rfl rfl ?_ ?_ <;> intro hb)
    | ((first | (refine op_call rfl rfl rfl ?_; refine nil_contains _ _ ?_) | refine op_pick_t rfl rfl (by first | assumption | with_reducible rfl | decide) rfl ?_ | refine op_pick_f rfl rfl (by first | assumption | with_reducible rfl | decide) rfl ?_ | refine op_at (opD_load rfl rfl (by repeat (first | exact obj_here rfl | exact obj_set | assumption | refine obj_skip (by (try simp only [DH.new_next, DH.set_next]); omega) ?_ | refine obj_past (by (try simp only [DH.new_next, DH.set_next]); omega) ?_)) rfl rfl) ?_ | refine op_at (opD_store rfl rfl rfl rfl rfl (by repeat (first | exact obj_here rfl | exact obj_set | assumption | refine obj_skip (by (try simp only [DH.new_next, DH.set_next]); omega) ?_ | refine obj_past (by (try simp only [DH.new_next, DH.set_next]); omega) ?_)) rfl) ?_ | refine op_at (opD_eqb rfl rfl rfl rfl) ?_ | refine op_at (opD_neqb rfl rfl rfl rfl) ?_ | refine op_at rfl ?_); dsimp only [putD, DV.cells, DH.new_next, DH.set_next, List.length_cons, List.length_nil, Nat.reduceAdd, List.set_cons_zero, List.set_cons_succ, getD_zero, getD_succ, fieldAt_zero, fieldAt_succ, thenD, blockD, retR])
    | refine dwp_cond_t rfl (by first | assumption | with_reducible rfl | decide) ?_
    | refine dwp_cond_f rfl (by first | assumption | with_reducible rfl | decide) ?_
    | (refine dwp_cond rfl ?_ ?_ <;> intro hb)
    | refine dwp_block ?_
    | refine dwp_skip ?_
    | refine dwp_ret ?_
    | refine dwp_exit ?_
    | dsimp only [thenD, blockD, retR]
    | (refine ⟨_, rfl, ?_⟩; try dsimp only)
    | fail)
  all_goals exact ⟨rfl, rfl⟩

theorem check_ok : ExtSound Try.prog gCheck 19 := ext_read ok2 Try.func19 rfl rfl (by
  intro args H r H' hw h
  unfold gCheck at h
  split at h
  · split at h
    · rename_i l hl
      cases h
      refine ⟨rfl, rfl, ?_⟩
      rcases things_cases hl with ⟨rfl, rfl⟩ | ⟨loc, i, c, ex, rfl, h1, h2⟩
      · exact (nil_check H).mono fun r' H1 ⟨h1, h2⟩ => ⟨h1, h2 ▸ Above.refl H⟩
      · exact (check19 H loc i c ex l h1 h2).mono fun r' H1 ⟨h1, h2⟩ => ⟨h1, h2 ▸ Above.refl H⟩
    · cases h
  · cases h)

end Go.Det.M11
