/- A thing is launched. -/
import Derived.Test.YtphnddoneocfhaaM10
namespace Go.Det.M11
open Go Go.Det Go.Proofs
set_option maxRecDepth 4000
set_option maxHeartbeats 4000000
set_option linter.unusedVariables false
set_option linter.unusedSimpArgs false

/-- A slice of things. -/
structure Th (H : DH) (p : Option (Nat × Nat × Nat)) (c : Nat) (ex : Bool) (l : List AirV) : Prop where
  sl : Sl H 8 (l.map AirV.cells) p
  nil : p = none → c = 0 ∧ ex = true
  len : l.length ≤ maxLen

theorem Th.mono {H H' : DH} {p : Option (Nat × Nat × Nat)} {c : Nat} {ex : Bool} {l : List AirV} (h : Th H p c ex l) (k : Above H H') : Th H' p c ex l := ⟨h.sl.mono k, h.nil, h.len⟩

theorem Th.of {H : DH} {p : Option (Nat × Nat × Nat)} {c : Nat} {ex : Bool} {l : List AirV} (h : Th H p c ex l) : thingsOf H (.sl p l.length c ex) = some l := by
  have hr := h.sl.rows c ex
  rw [List.length_map] at hr
  cases p with
  | none =>
    obtain ⟨rfl, rfl⟩ := h.nil rfl
    have := h.sl.none_len
    cases l with
    | nil => rfl
    | cons a l => simp at this
  | some q =>
    obtain ⟨loc, i, z⟩ := q
    have hz := h.sl.size
    subst hz
    obtain ⟨ro, rs, h1, h2, h3, _⟩ := h.sl.in_rows
    rw [List.length_map] at h2 h3
    simp only [thingsOf, h1, h3, airsOf_map]
    rw [if_pos ⟨trivial, h.len⟩]

theorem Th.check {H : DH} {p : Option (Nat × Nat × Nat)} {c : Nat} {ex : Bool} {l : List AirV} (h : Th H p c ex l) : gCheck [.sl p l.length c ex] H = some (.int .i64 (checkI l), H) := by simp only [gCheck, h.of]

theorem wrapSub' {k : Nat} (h1 : 1 ≤ k) (h : k ≤ 9223372036854775807) : IntKind.i64.wrap ((k : Int) - 1) = ((k - 1 : Nat) : Int) := by
  unfold IntKind.wrap
  simp [IntKind.signed, IntKind.bits]
  omega

def AirV.meet (a x : AirV) : Bool := meetB a.ch a.at_ a.en x.ch x.at_ x.en
def AirV.setBad (a : AirV) (b : Bool) : AirV := { a with bad := b }
/-- What a thing is behind another one's launch. -/
def AirV.upd (x a : AirV) : AirV := a.setBad (a.bad || a.meet x)

/-- Is a launch out of form? -/
def launchBad (l : List AirV) (x : AirV) : Bool := (checkI l != 0) || x.off || (match l[l.length - 1]? with | some a => decide (a.id ≥ x.id) | none => false)
def launchE (l : List AirV) (x : AirV) : Int := if launchBad l x = true then 1 else if l.length = 256 then 7 else 0

/-- The things, so many of them met. -/
def part (l : List AirV) (x' x : AirV) (k : Nat) : List AirV := (l.take k).map x.upd ++ l.drop k ++ [x'.setBad (x'.bad || (l.take k).any fun a => a.meet x)]

theorem part_length (l : List AirV) (x' x : AirV) (k : Nat) (hk : k ≤ l.length) : (part l x' x k).length = l.length + 1 := by simp [part]; omega
theorem part_zero (l : List AirV) (x' x : AirV) : part l x' x 0 = l ++ [x'] := by simp [part, AirV.setBad]
theorem part_at (l : List AirV) (x' x : AirV) (k j : Nat) (hk : k ≤ l.length) : (part l x' x k)[j]? = if j < k then (l[j]?).map x.upd else if j < l.length then l[j]? else if j = l.length then some (x'.setBad (x'.bad || (l.take k).any fun a => a.meet x)) else none := by
  unfold part
  have e1 : ((l.take k).map x.upd).length = k := by simp; omega
  have e2 : ((l.take k).map x.upd ++ l.drop k).length = l.length := by simp; omega
  by_cases h1 : j < k
  · rw [if_pos h1, List.getElem?_append_left (by omega), List.getElem?_append_left (by omega), List.getElem?_map, List.getElem?_take, if_pos h1]
  · rw [if_neg h1]
    by_cases h2 : j < l.length
    · rw [if_pos h2, List.getElem?_append_left (by omega), List.getElem?_append_right (by omega), e1, List.getElem?_drop]
      congr 1; omega
    · rw [if_neg h2, List.getElem?_append_right (by omega), e2]
      by_cases h3 : j = l.length
      · rw [if_pos h3, h3]; simp
      · rw [if_neg h3, List.getElem?_eq_none]; simp; omega

theorem part_step (l : List AirV) (x' x : AirV) (k : Nat) (hk : k < l.length) (a : AirV) (ha : l[k]? = some a) (hm : a.meet x = false) : part l x' x (k + 1) = part l x' x k := by
  apply List.ext_getElem?
  intro j
  rw [part_at _ _ _ _ _ (by omega), part_at _ _ _ _ _ (by omega)]
  by_cases h1 : j < k
  · rw [if_pos h1, if_pos (by omega)]
  · rw [if_neg h1]
    by_cases h2 : j = k
    · subst h2
      rw [if_pos (by omega), if_pos hk, ha]
      simp [AirV.upd, hm, AirV.setBad]
    · rw [if_neg (by omega)]
      have : (l.take (k + 1)).any (fun a => a.meet x) = (l.take k).any (fun a => a.meet x) := by
        rw [List.take_add_one, ha]; simp [hm]
      rw [this]

theorem part_met (l : List AirV) (x' x : AirV) (k : Nat) (hk : k < l.length) (a : AirV) (ha : l[k]? = some a) (hm : a.meet x = true) : part l x' x (k + 1) = ((part l x' x k).set k (a.setBad true)).set l.length (x'.setBad true) := by
  apply List.ext_getElem?
  intro j
  have hl := part_length l x' x k (by omega)
  rw [List.getElem?_set, List.getElem?_set, List.length_set, hl, part_at _ _ _ _ _ (by omega), part_at _ _ _ _ _ (by omega)]
  by_cases h1 : l.length = j
  · rw [if_neg (by omega), if_neg (by omega), if_pos h1.symm, if_pos h1, if_pos (by omega)]
    have : (l.take (k + 1)).any (fun a => a.meet x) = true := by
      rw [List.take_add_one, ha]; simp [hm]
    rw [this, Bool.or_true]
  · rw [if_neg h1]
    by_cases h2 : k = j
    · subst h2
      rw [if_pos (by omega), if_pos rfl, if_pos (by omega), ha]
      simp [AirV.upd, hm]
    · rw [if_neg h2]
      by_cases h3 : j < k
      · rw [if_pos h3, if_pos (by omega)]
      · rw [if_neg h3, if_neg (by omega)]
        rw [if_neg (show ¬ j = l.length by omega), if_neg (show ¬ j = l.length by omega)]

theorem part_mem (l : List AirV) (x' x : AirV) (k : Nat) (a : AirV) (h : a ∈ part l x' x k) : ∃ b ∈ l ++ [x'], ∃ v, a = b.setBad v := by
  unfold part at h
  simp only [List.mem_append, List.mem_map, List.mem_singleton] at h ⊢
  rcases h with (⟨b, hb, rfl⟩ | h) | rfl
  · exact ⟨b, .inl (List.mem_of_mem_take hb), _, rfl⟩
  · exact ⟨a, .inl (List.mem_of_mem_drop h), a.bad, rfl⟩
  · exact ⟨x', .inr rfl, _, rfl⟩

theorem setRow_at {rs : List (List DV)} {i off : Nat} {r vs : List DV} (hr : rs[i]? = some r) (hv : off + vs.length ≤ r.length) (ho : vs.all DV.one = true) : setRow rs i off vs = some (rs.set i (splice r off vs)) := by
  unfold setRow
  rw [hr]
  simp only [hv, ho, and_self, if_true]

theorem off_small {x : AirV} (h : x.off = false) : x.n ≤ 64 := by
  unfold AirV.off fitB at h
  simp only [Bool.not_eq_false', Bool.and_eq_true, decide_eq_true_eq] at h
  omega

theorem check_small {l : List AirV} (h : checkI l = 0) : l.length ≤ 256 ∧ ∀ a ∈ l, a.n ≤ 64 := by
  unfold checkI at h
  split at h
  · rename_i hc
    refine ⟨hc.1, fun a ha => off_small ?_⟩
    exact List.any_eq_false.mp hc.2.1 a ha |> fun h => by simpa using h
  · cases h

theorem map_set_cells (l : List AirV) (k : Nat) (a : AirV) : (l.set k a).map AirV.cells = (l.map AirV.cells).set k a.cells := by
  rw [List.map_set]

theorem launch17 (H : DH) (q : Option (Nat × Nat × Nat)) (c : Nat) (ex : Bool) (l : List AirV) (hl : Th H q c ex l) (hok : ∀ a ∈ l, AirOk H a) (x : AirV) (hx : AirOk H x) :
    CallWp Try.prog X3 17 [.sl q l.length c ex, .agg x.cells] H (fun r H' => Above H H' ∧
      ((launchE l x ≠ 0 ∧ r = .tuple [.sl none 0 0 true, .int .i64 (launchE l x)]) ∨
       (launchE l x = 0 ∧ checkI l = 0 ∧ ∃ loc l' x', r = .tuple [.sl (some (loc, 0, 8)) (l.length + 1) (l.length + 1) true, .int .i64 0] ∧ H.next ≤ loc ∧ Sim l l' ∧ (∃ p1 c1 e1, x' = x.at p1 c1 e1) ∧
        H'.obj loc = some (.rows false 8 ((part l' x' x l.length).map AirV.cells)) ∧ loc < H'.next ∧ ∀ a ∈ part l' x' x l.length, AirOk H' a))) := by
  have hab1 : Above H (H.new (.rows false 8 [x.cells])) := (Above.refl H).new _
  have hl1 := hl.mono hab1
  have hchk := hl1.check
  refine enter rfl Try.func17 rfl Try.ntmps17 rfl ?_
  dsimp only [List.cons_append, List.nil_append, List.length_cons, List.length_nil, List.replicate_succ, List.replicate_zero, Nat.reduceAdd, Nat.reduceSub]
  repeat' (first
    | refine dwp_seq ?_
    | refine dwp_region ?_
    | refine ops_nil ?_
    | (refine ops_plain rfl ?_; (first | refine op_pick_t rfl rfl (by first | assumption | with_reducible rfl | decide) rfl ?_ | refine op_pick_f rfl rfl (by first | assumption | with_reducible rfl | decide) rfl ?_ | refine op_at (opD_load rfl rfl (by repeat (first | assumption | (with_reducible refine obj_here ?_; rfl) | with_reducible exact obj_set | (with_reducible refine obj_skip ?_ ?_; · ((try simp only [DH.new_next, DH.set_next]); omega)) | (with_reducible refine obj_past ?_ ?_; · ((try simp only [DH.new_next, DH.set_next]); omega)))) rfl rfl) ?_ | refine op_at (opD_store rfl rfl rfl rfl rfl (by repeat (first | assumption | (with_reducible refine obj_here ?_; rfl) | with_reducible exact obj_set | (with_reducible refine obj_skip ?_ ?_; · ((try simp only [DH.new_next, DH.set_next]); omega)) | (with_reducible refine obj_past ?_ ?_; · ((try simp only [DH.new_next, DH.set_next]); omega)))) rfl) ?_ | refine op_at (opD_eqb rfl rfl rfl rfl) ?_ | refine op_at (opD_neqb rfl rfl rfl rfl) ?_ | refine op_at rfl ?_); (all_goals try dsimp only [putD, DV.cells, DH.new_next, DH.set_next, List.length_cons, List.length_nil, Nat.reduceAdd, List.set_cons_zero, List.set_cons_succ, getD_zero, getD_succ, fieldAt_zero, fieldAt_succ, thenD, blockD, retR, AirV.dv]))
    | (refine ops_on rfl rfl (by first | assumption | with_reducible rfl | decide) ?_; (first | refine op_pick_t rfl rfl (by first | assumption | with_reducible rfl | decide) rfl ?_ | refine op_pick_f rfl rfl (by first | assumption | with_reducible rfl | decide) rfl ?_ | refine op_at (opD_load rfl rfl (by repeat (first | assumption | (with_reducible refine obj_here ?_; rfl) | with_reducible exact obj_set | (with_reducible refine obj_skip ?_ ?_; · ((try simp only [DH.new_next, DH.set_next]); omega)) | (with_reducible refine obj_past ?_ ?_; · ((try simp only [DH.new_next, DH.set_next]); omega)))) rfl rfl) ?_ | refine op_at (opD_store rfl rfl rfl rfl rfl (by repeat (first | assumption | (with_reducible refine obj_here ?_; rfl) | with_reducible exact obj_set | (with_reducible refine obj_skip ?_ ?_; · ((try simp only [DH.new_next, DH.set_next]); omega)) | (with_reducible refine obj_past ?_ ?_; · ((try simp only [DH.new_next, DH.set_next]); omega)))) rfl) ?_ | refine op_at (opD_eqb rfl rfl rfl rfl) ?_ | refine op_at (opD_neqb rfl rfl rfl rfl) ?_ | refine op_at rfl ?_); (all_goals try dsimp only [putD, DV.cells, DH.new_next, DH.set_next, List.length_cons, List.length_nil, Nat.reduceAdd, List.set_cons_zero, List.set_cons_succ, getD_zero, getD_succ, fieldAt_zero, fieldAt_succ, thenD, blockD, retR, AirV.dv]))
    | (refine ops_off1 rfl rfl (by first | assumption | with_reducible rfl | decide) ?_; (all_goals try dsimp only [putD, DV.cells, DH.new_next, DH.set_next, List.length_cons, List.length_nil, Nat.reduceAdd, List.set_cons_zero, List.set_cons_succ, getD_zero, getD_succ, fieldAt_zero, fieldAt_succ, thenD, blockD, retR, AirV.dv]))
    | (refine ops_off0 rfl rfl (by first | assumption | with_reducible rfl | decide) ?_; (all_goals try dsimp only [putD, DV.cells, DH.new_next, DH.set_next, List.length_cons, List.length_nil, Nat.reduceAdd, List.set_cons_zero, List.set_cons_succ, getD_zero, getD_succ, fieldAt_zero, fieldAt_succ, thenD, blockD, retR, AirV.dv]))
    | (refine ops_split1 rfl rfl ?_ ?_ <;> intro hb)
    | (refine ops_split0 rfl rfl ?_ ?_ <;> intro hb)
    | ((first | refine op_pick_t rfl rfl (by first | assumption | with_reducible rfl | decide) rfl ?_ | refine op_pick_f rfl rfl (by first | assumption | with_reducible rfl | decide) rfl ?_ | refine op_at (opD_load rfl rfl (by repeat (first | assumption | (with_reducible refine obj_here ?_; rfl) | with_reducible exact obj_set | (with_reducible refine obj_skip ?_ ?_; · ((try simp only [DH.new_next, DH.set_next]); omega)) | (with_reducible refine obj_past ?_ ?_; · ((try simp only [DH.new_next, DH.set_next]); omega)))) rfl rfl) ?_ | refine op_at (opD_store rfl rfl rfl rfl rfl (by repeat (first | assumption | (with_reducible refine obj_here ?_; rfl) | with_reducible exact obj_set | (with_reducible refine obj_skip ?_ ?_; · ((try simp only [DH.new_next, DH.set_next]); omega)) | (with_reducible refine obj_past ?_ ?_; · ((try simp only [DH.new_next, DH.set_next]); omega)))) rfl) ?_ | refine op_at (opD_eqb rfl rfl rfl rfl) ?_ | refine op_at (opD_neqb rfl rfl rfl rfl) ?_ | refine op_at rfl ?_); (all_goals try dsimp only [putD, DV.cells, DH.new_next, DH.set_next, List.length_cons, List.length_nil, Nat.reduceAdd, List.set_cons_zero, List.set_cons_succ, getD_zero, getD_succ, fieldAt_zero, fieldAt_succ, thenD, blockD, retR, AirV.dv]))
    | refine dwp_cond_t rfl (by first | assumption | with_reducible rfl | decide) ?_
    | refine dwp_cond_f rfl (by first | assumption | with_reducible rfl | decide) ?_
    | (refine dwp_cond rfl ?_ ?_ <;> intro hb)
    | refine dwp_block ?_
    | refine dwp_skip ?_
    | refine dwp_ret ?_
    | refine dwp_exit ?_
    | dsimp only [thenD, blockD, retR, AirV.dv]
    | (refine ⟨_, rfl, ?_⟩; try dsimp only)
    | fail)
  refine Dwp.mono (Q := fun e st => e = .normal ∧ ∃ J : Nat → DV, st = ⟨(.sl q l.length c ex :: J 1 :: J 2 :: .ptr (some (H.next, 0, 0)) :: J 4 :: J 5 :: .int .i64 l.length :: J 7 :: J 8 :: J 9 :: J 10 :: .bool (launchBad l x) :: J 12 :: J 13 :: J 14 :: J 15 :: J 16 :: J 17 :: J 18 :: J 19 :: J 20 :: J 21 :: J 22 :: J 23 :: J 24 :: J 25 :: J 26 :: J 27 :: J 28 :: J 29 :: J 30 :: J 31 :: J 32 :: J 33 :: J 34 :: J 35 :: J 36 :: J 37 :: J 38 :: J 39 :: J 40 :: J 41 :: J 42 :: J 43 :: J 44 :: J 45 :: J 46 :: J 47 :: J 48 :: J 49 :: J 50 :: J 51 :: J 52 :: J 53 :: J 54 :: J 55 :: J 56 :: J 57 :: J 58 :: J 59 :: J 60 :: J 61 :: J 62 :: J 63 :: []), (H.new (.rows false 8 [x.cells]))⟩) ?_ ?_
  · cases h1 : (checkI l != 0) with
    | true =>
      have hB : launchBad l x = true := by unfold launchBad; rw [h1]; rfl
      rw [hB]
      repeat' (first
        | refine dwp_seq ?_
        | refine dwp_region ?_
        | refine ops_nil ?_
        | (refine drawc_pure (wanted_on rfl rfl (by first | assumption | with_reducible rfl | decide)) rfl rfl (opD_index rfl rfl rfl rfl rfl hin) ?_; (all_goals try dsimp only [putD, DV.cells, DH.new_next, DH.set_next, List.length_cons, List.length_nil, Nat.reduceAdd, List.set_cons_zero, List.set_cons_succ, getD_zero, getD_succ, fieldAt_zero, fieldAt_succ, thenD, blockD, retR, AirV.dv]))
        | (refine drawc_read (wanted_on rfl rfl (by first | assumption | with_reducible rfl | decide)) rfl rfl (by kernel_rfl) (opD_load rfl rfl ho hrk rfl) ?_; (all_goals try dsimp only [putD, DV.cells, DH.new_next, DH.set_next, List.length_cons, List.length_nil, Nat.reduceAdd, List.set_cons_zero, List.set_cons_succ, getD_zero, getD_succ, fieldAt_zero, fieldAt_succ, thenD, blockD, retR, AirV.dv]))
        | (refine ops_plain rfl ?_; (first | (refine op_call rfl rfl rfl ?_; refine call_table (g := gCheck) rfl hchk ?_) | (refine op_call rfl rfl rfl ?_; refine call_table (g := gOff) (r := .bool x.off) rfl rfl ?_) | refine op_pick_t rfl rfl (by first | assumption | with_reducible rfl | decide) rfl ?_ | refine op_pick_f rfl rfl (by first | assumption | with_reducible rfl | decide) rfl ?_ | refine op_at (opD_load rfl rfl (by repeat (first | assumption | (with_reducible refine obj_here ?_; rfl) | with_reducible exact obj_set | (with_reducible refine obj_skip ?_ ?_; · ((try simp only [DH.new_next, DH.set_next]); omega)) | (with_reducible refine obj_past ?_ ?_; · ((try simp only [DH.new_next, DH.set_next]); omega)))) rfl rfl) ?_ | refine op_at (opD_store rfl rfl rfl rfl rfl (by repeat (first | assumption | (with_reducible refine obj_here ?_; rfl) | with_reducible exact obj_set | (with_reducible refine obj_skip ?_ ?_; · ((try simp only [DH.new_next, DH.set_next]); omega)) | (with_reducible refine obj_past ?_ ?_; · ((try simp only [DH.new_next, DH.set_next]); omega)))) rfl) ?_ | refine op_at (opD_eqb rfl rfl rfl rfl) ?_ | refine op_at (opD_neqb rfl rfl rfl rfl) ?_ | refine op_at rfl ?_); (all_goals try dsimp only [putD, DV.cells, DH.new_next, DH.set_next, List.length_cons, List.length_nil, Nat.reduceAdd, List.set_cons_zero, List.set_cons_succ, getD_zero, getD_succ, fieldAt_zero, fieldAt_succ, thenD, blockD, retR, AirV.dv]))
        | (refine ops_on rfl rfl (by first | assumption | with_reducible rfl | decide) ?_; (first | (refine op_call rfl rfl rfl ?_; refine call_table (g := gCheck) rfl hchk ?_) | (refine op_call rfl rfl rfl ?_; refine call_table (g := gOff) (r := .bool x.off) rfl rfl ?_) | refine op_pick_t rfl rfl (by first | assumption | with_reducible rfl | decide) rfl ?_ | refine op_pick_f rfl rfl (by first | assumption | with_reducible rfl | decide) rfl ?_ | refine op_at (opD_load rfl rfl (by repeat (first | assumption | (with_reducible refine obj_here ?_; rfl) | with_reducible exact obj_set | (with_reducible refine obj_skip ?_ ?_; · ((try simp only [DH.new_next, DH.set_next]); omega)) | (with_reducible refine obj_past ?_ ?_; · ((try simp only [DH.new_next, DH.set_next]); omega)))) rfl rfl) ?_ | refine op_at (opD_store rfl rfl rfl rfl rfl (by repeat (first | assumption | (with_reducible refine obj_here ?_; rfl) | with_reducible exact obj_set | (with_reducible refine obj_skip ?_ ?_; · ((try simp only [DH.new_next, DH.set_next]); omega)) | (with_reducible refine obj_past ?_ ?_; · ((try simp only [DH.new_next, DH.set_next]); omega)))) rfl) ?_ | refine op_at (opD_eqb rfl rfl rfl rfl) ?_ | refine op_at (opD_neqb rfl rfl rfl rfl) ?_ | refine op_at rfl ?_); (all_goals try dsimp only [putD, DV.cells, DH.new_next, DH.set_next, List.length_cons, List.length_nil, Nat.reduceAdd, List.set_cons_zero, List.set_cons_succ, getD_zero, getD_succ, fieldAt_zero, fieldAt_succ, thenD, blockD, retR, AirV.dv]))
        | (refine ops_off1 rfl rfl (by first | assumption | with_reducible rfl | decide) ?_; (all_goals try dsimp only [putD, DV.cells, DH.new_next, DH.set_next, List.length_cons, List.length_nil, Nat.reduceAdd, List.set_cons_zero, List.set_cons_succ, getD_zero, getD_succ, fieldAt_zero, fieldAt_succ, thenD, blockD, retR, AirV.dv]))
        | (refine ops_off0 rfl rfl (by first | assumption | with_reducible rfl | decide) ?_; (all_goals try dsimp only [putD, DV.cells, DH.new_next, DH.set_next, List.length_cons, List.length_nil, Nat.reduceAdd, List.set_cons_zero, List.set_cons_succ, getD_zero, getD_succ, fieldAt_zero, fieldAt_succ, thenD, blockD, retR, AirV.dv]))
        | (refine ops_split1 rfl rfl ?_ ?_ <;> intro hb)
        | (refine ops_split0 rfl rfl ?_ ?_ <;> intro hb)
        | ((first | (refine op_call rfl rfl rfl ?_; refine call_table (g := gCheck) rfl hchk ?_) | (refine op_call rfl rfl rfl ?_; refine call_table (g := gOff) (r := .bool x.off) rfl rfl ?_) | refine op_pick_t rfl rfl (by first | assumption | with_reducible rfl | decide) rfl ?_ | refine op_pick_f rfl rfl (by first | assumption | with_reducible rfl | decide) rfl ?_ | refine op_at (opD_load rfl rfl (by repeat (first | assumption | (with_reducible refine obj_here ?_; rfl) | with_reducible exact obj_set | (with_reducible refine obj_skip ?_ ?_; · ((try simp only [DH.new_next, DH.set_next]); omega)) | (with_reducible refine obj_past ?_ ?_; · ((try simp only [DH.new_next, DH.set_next]); omega)))) rfl rfl) ?_ | refine op_at (opD_store rfl rfl rfl rfl rfl (by repeat (first | assumption | (with_reducible refine obj_here ?_; rfl) | with_reducible exact obj_set | (with_reducible refine obj_skip ?_ ?_; · ((try simp only [DH.new_next, DH.set_next]); omega)) | (with_reducible refine obj_past ?_ ?_; · ((try simp only [DH.new_next, DH.set_next]); omega)))) rfl) ?_ | refine op_at (opD_eqb rfl rfl rfl rfl) ?_ | refine op_at (opD_neqb rfl rfl rfl rfl) ?_ | refine op_at rfl ?_); (all_goals try dsimp only [putD, DV.cells, DH.new_next, DH.set_next, List.length_cons, List.length_nil, Nat.reduceAdd, List.set_cons_zero, List.set_cons_succ, getD_zero, getD_succ, fieldAt_zero, fieldAt_succ, thenD, blockD, retR, AirV.dv]))
        | refine dwp_drawc _ rfl ?_
        | refine drawc_nil ?_
        | (refine drawc_pick_t (by first | exact wanted_plain rfl | exact wanted_on rfl rfl (by first | assumption | with_reducible rfl | decide)) rfl rfl (by first | assumption | with_reducible rfl | decide) rfl ?_; (all_goals try dsimp only [putD, DV.cells, DH.new_next, DH.set_next, List.length_cons, List.length_nil, Nat.reduceAdd, List.set_cons_zero, List.set_cons_succ, getD_zero, getD_succ, fieldAt_zero, fieldAt_succ, thenD, blockD, retR, AirV.dv]))
        | (refine drawc_pick_f (by first | exact wanted_plain rfl | exact wanted_on rfl rfl (by first | assumption | with_reducible rfl | decide)) rfl rfl (by first | assumption | with_reducible rfl | decide) rfl ?_; (all_goals try dsimp only [putD, DV.cells, DH.new_next, DH.set_next, List.length_cons, List.length_nil, Nat.reduceAdd, List.set_cons_zero, List.set_cons_succ, getD_zero, getD_succ, fieldAt_zero, fieldAt_succ, thenD, blockD, retR, AirV.dv]))
        | (refine drawc_pure (by first | exact wanted_plain rfl | exact wanted_on rfl rfl (by first | assumption | with_reducible rfl | decide)) rfl rfl rfl ?_; (all_goals try dsimp only [putD, DV.cells, DH.new_next, DH.set_next, List.length_cons, List.length_nil, Nat.reduceAdd, List.set_cons_zero, List.set_cons_succ, getD_zero, getD_succ, fieldAt_zero, fieldAt_succ, thenD, blockD, retR, AirV.dv]))
        | (refine drawc_read (by first | exact wanted_plain rfl | exact wanted_on rfl rfl (by first | assumption | with_reducible rfl | decide)) rfl rfl (by kernel_rfl) (opD_load rfl rfl (by repeat (first | assumption | (with_reducible refine obj_here ?_; rfl) | with_reducible exact obj_set | (with_reducible refine obj_skip ?_ ?_; · ((try simp only [DH.new_next, DH.set_next]); omega)) | (with_reducible refine obj_past ?_ ?_; · ((try simp only [DH.new_next, DH.set_next]); omega)))) rfl rfl) ?_; (all_goals try dsimp only [putD, DV.cells, DH.new_next, DH.set_next, List.length_cons, List.length_nil, Nat.reduceAdd, List.set_cons_zero, List.set_cons_succ, getD_zero, getD_succ, fieldAt_zero, fieldAt_succ, thenD, blockD, retR, AirV.dv]))
        | (refine drawc_read (by first | exact wanted_plain rfl | exact wanted_on rfl rfl (by first | assumption | with_reducible rfl | decide)) rfl rfl (by kernel_rfl) rfl ?_; (all_goals try dsimp only [putD, DV.cells, DH.new_next, DH.set_next, List.length_cons, List.length_nil, Nat.reduceAdd, List.set_cons_zero, List.set_cons_succ, getD_zero, getD_succ, fieldAt_zero, fieldAt_succ, thenD, blockD, retR, AirV.dv]))
        | (refine drawc_same (by first | exact wanted_plain rfl | exact wanted_on rfl rfl (by first | assumption | with_reducible rfl | decide)) rfl (by kernel_rfl) ?_; (first | (refine op_call rfl rfl rfl ?_; refine call_table (g := gCheck) rfl hchk ?_; refine ⟨rfl, ?_⟩) | (refine op_call rfl rfl rfl ?_; refine call_table (g := gOff) (r := .bool x.off) rfl rfl ?_; refine ⟨rfl, ?_⟩)); (all_goals try dsimp only [putD, DV.cells, DH.new_next, DH.set_next, List.length_cons, List.length_nil, Nat.reduceAdd, List.set_cons_zero, List.set_cons_succ, getD_zero, getD_succ, fieldAt_zero, fieldAt_succ, thenD, blockD, retR, AirV.dv]))
        | (refine drawc_sync (by first | exact wanted_plain rfl | exact wanted_on rfl rfl (by first | assumption | with_reducible rfl | decide)) rfl (by kernel_rfl) ?_; (first | (refine op_call rfl rfl rfl ?_; refine call_table (g := gCheck) rfl hchk ?_) | (refine op_call rfl rfl rfl ?_; refine call_table (g := gOff) (r := .bool x.off) rfl rfl ?_) | refine op_pick_t rfl rfl (by first | assumption | with_reducible rfl | decide) rfl ?_ | refine op_pick_f rfl rfl (by first | assumption | with_reducible rfl | decide) rfl ?_ | refine op_at (opD_load rfl rfl (by repeat (first | assumption | (with_reducible refine obj_here ?_; rfl) | with_reducible exact obj_set | (with_reducible refine obj_skip ?_ ?_; · ((try simp only [DH.new_next, DH.set_next]); omega)) | (with_reducible refine obj_past ?_ ?_; · ((try simp only [DH.new_next, DH.set_next]); omega)))) rfl rfl) ?_ | refine op_at (opD_store rfl rfl rfl rfl rfl (by repeat (first | assumption | (with_reducible refine obj_here ?_; rfl) | with_reducible exact obj_set | (with_reducible refine obj_skip ?_ ?_; · ((try simp only [DH.new_next, DH.set_next]); omega)) | (with_reducible refine obj_past ?_ ?_; · ((try simp only [DH.new_next, DH.set_next]); omega)))) rfl) ?_ | refine op_at (opD_eqb rfl rfl rfl rfl) ?_ | refine op_at (opD_neqb rfl rfl rfl rfl) ?_ | refine op_at rfl ?_); (all_goals try dsimp only [putD, DV.cells, DH.new_next, DH.set_next, List.length_cons, List.length_nil, Nat.reduceAdd, List.set_cons_zero, List.set_cons_succ, getD_zero, getD_succ, fieldAt_zero, fieldAt_succ, thenD, blockD, retR, AirV.dv]))
        | (refine drawc_off (by first | exact wanted_off1 rfl rfl (by first | assumption | with_reducible rfl | decide) | exact wanted_off0 rfl rfl (by first | assumption | with_reducible rfl | decide) | exact wanted_none rfl rfl) ?_; (all_goals try dsimp only [putD, DV.cells, DH.new_next, DH.set_next, List.length_cons, List.length_nil, Nat.reduceAdd, List.set_cons_zero, List.set_cons_succ, getD_zero, getD_succ, fieldAt_zero, fieldAt_succ, thenD, blockD, retR, AirV.dv]))
        | refine dwp_cond_t rfl (by first | assumption | with_reducible rfl | decide) ?_
        | refine dwp_cond_f rfl (by first | assumption | with_reducible rfl | decide) ?_
        | (refine dwp_cond rfl ?_ ?_ <;> intro hb)
        | refine dwp_block ?_
        | refine dwp_skip ?_
        | refine dwp_ret ?_
        | refine dwp_exit ?_
        | dsimp only [thenD, blockD, retR, AirV.dv]
        | (refine ⟨_, rfl, ?_⟩; try dsimp only)
        | fail)
      exact ⟨rfl, junk_eq rfl rfl⟩
    | false =>
      cases h2 : x.off with
      | true =>
        have hB : launchBad l x = true := by unfold launchBad; rw [h1, h2]; rfl
        rw [hB]
        repeat' (first
          | refine dwp_seq ?_
          | refine dwp_region ?_
          | refine ops_nil ?_
          | (refine drawc_pure (wanted_on rfl rfl (by first | assumption | with_reducible rfl | decide)) rfl rfl (opD_index rfl rfl rfl rfl rfl hin) ?_; (all_goals try dsimp only [putD, DV.cells, DH.new_next, DH.set_next, List.length_cons, List.length_nil, Nat.reduceAdd, List.set_cons_zero, List.set_cons_succ, getD_zero, getD_succ, fieldAt_zero, fieldAt_succ, thenD, blockD, retR, AirV.dv]))
          | (refine drawc_read (wanted_on rfl rfl (by first | assumption | with_reducible rfl | decide)) rfl rfl (by kernel_rfl) (opD_load rfl rfl ho hrk rfl) ?_; (all_goals try dsimp only [putD, DV.cells, DH.new_next, DH.set_next, List.length_cons, List.length_nil, Nat.reduceAdd, List.set_cons_zero, List.set_cons_succ, getD_zero, getD_succ, fieldAt_zero, fieldAt_succ, thenD, blockD, retR, AirV.dv]))
          | (refine ops_plain rfl ?_; (first | (refine op_call rfl rfl rfl ?_; refine call_table (g := gCheck) rfl hchk ?_) | (refine op_call rfl rfl rfl ?_; refine call_table (g := gOff) (r := .bool x.off) rfl rfl ?_) | refine op_pick_t rfl rfl (by first | assumption | with_reducible rfl | decide) rfl ?_ | refine op_pick_f rfl rfl (by first | assumption | with_reducible rfl | decide) rfl ?_ | refine op_at (opD_load rfl rfl (by repeat (first | assumption | (with_reducible refine obj_here ?_; rfl) | with_reducible exact obj_set | (with_reducible refine obj_skip ?_ ?_; · ((try simp only [DH.new_next, DH.set_next]); omega)) | (with_reducible refine obj_past ?_ ?_; · ((try simp only [DH.new_next, DH.set_next]); omega)))) rfl rfl) ?_ | refine op_at (opD_store rfl rfl rfl rfl rfl (by repeat (first | assumption | (with_reducible refine obj_here ?_; rfl) | with_reducible exact obj_set | (with_reducible refine obj_skip ?_ ?_; · ((try simp only [DH.new_next, DH.set_next]); omega)) | (with_reducible refine obj_past ?_ ?_; · ((try simp only [DH.new_next, DH.set_next]); omega)))) rfl) ?_ | refine op_at (opD_eqb rfl rfl rfl rfl) ?_ | refine op_at (opD_neqb rfl rfl rfl rfl) ?_ | refine op_at rfl ?_); (all_goals try dsimp only [putD, DV.cells, DH.new_next, DH.set_next, List.length_cons, List.length_nil, Nat.reduceAdd, List.set_cons_zero, List.set_cons_succ, getD_zero, getD_succ, fieldAt_zero, fieldAt_succ, thenD, blockD, retR, AirV.dv]))
          | (refine ops_on rfl rfl (by first | assumption | with_reducible rfl | decide) ?_; (first | (refine op_call rfl rfl rfl ?_; refine call_table (g := gCheck) rfl hchk ?_) | (refine op_call rfl rfl rfl ?_; refine call_table (g := gOff) (r := .bool x.off) rfl rfl ?_) | refine op_pick_t rfl rfl (by first | assumption | with_reducible rfl | decide) rfl ?_ | refine op_pick_f rfl rfl (by first | assumption | with_reducible rfl | decide) rfl ?_ | refine op_at (opD_load rfl rfl (by repeat (first | assumption | (with_reducible refine obj_here ?_; rfl) | with_reducible exact obj_set | (with_reducible refine obj_skip ?_ ?_; · ((try simp only [DH.new_next, DH.set_next]); omega)) | (with_reducible refine obj_past ?_ ?_; · ((try simp only [DH.new_next, DH.set_next]); omega)))) rfl rfl) ?_ | refine op_at (opD_store rfl rfl rfl rfl rfl (by repeat (first | assumption | (with_reducible refine obj_here ?_; rfl) | with_reducible exact obj_set | (with_reducible refine obj_skip ?_ ?_; · ((try simp only [DH.new_next, DH.set_next]); omega)) | (with_reducible refine obj_past ?_ ?_; · ((try simp only [DH.new_next, DH.set_next]); omega)))) rfl) ?_ | refine op_at (opD_eqb rfl rfl rfl rfl) ?_ | refine op_at (opD_neqb rfl rfl rfl rfl) ?_ | refine op_at rfl ?_); (all_goals try dsimp only [putD, DV.cells, DH.new_next, DH.set_next, List.length_cons, List.length_nil, Nat.reduceAdd, List.set_cons_zero, List.set_cons_succ, getD_zero, getD_succ, fieldAt_zero, fieldAt_succ, thenD, blockD, retR, AirV.dv]))
          | (refine ops_off1 rfl rfl (by first | assumption | with_reducible rfl | decide) ?_; (all_goals try dsimp only [putD, DV.cells, DH.new_next, DH.set_next, List.length_cons, List.length_nil, Nat.reduceAdd, List.set_cons_zero, List.set_cons_succ, getD_zero, getD_succ, fieldAt_zero, fieldAt_succ, thenD, blockD, retR, AirV.dv]))
          | (refine ops_off0 rfl rfl (by first | assumption | with_reducible rfl | decide) ?_; (all_goals try dsimp only [putD, DV.cells, DH.new_next, DH.set_next, List.length_cons, List.length_nil, Nat.reduceAdd, List.set_cons_zero, List.set_cons_succ, getD_zero, getD_succ, fieldAt_zero, fieldAt_succ, thenD, blockD, retR, AirV.dv]))
          | (refine ops_split1 rfl rfl ?_ ?_ <;> intro hb)
          | (refine ops_split0 rfl rfl ?_ ?_ <;> intro hb)
          | ((first | (refine op_call rfl rfl rfl ?_; refine call_table (g := gCheck) rfl hchk ?_) | (refine op_call rfl rfl rfl ?_; refine call_table (g := gOff) (r := .bool x.off) rfl rfl ?_) | refine op_pick_t rfl rfl (by first | assumption | with_reducible rfl | decide) rfl ?_ | refine op_pick_f rfl rfl (by first | assumption | with_reducible rfl | decide) rfl ?_ | refine op_at (opD_load rfl rfl (by repeat (first | assumption | (with_reducible refine obj_here ?_; rfl) | with_reducible exact obj_set | (with_reducible refine obj_skip ?_ ?_; · ((try simp only [DH.new_next, DH.set_next]); omega)) | (with_reducible refine obj_past ?_ ?_; · ((try simp only [DH.new_next, DH.set_next]); omega)))) rfl rfl) ?_ | refine op_at (opD_store rfl rfl rfl rfl rfl (by repeat (first | assumption | (with_reducible refine obj_here ?_; rfl) | with_reducible exact obj_set | (with_reducible refine obj_skip ?_ ?_; · ((try simp only [DH.new_next, DH.set_next]); omega)) | (with_reducible refine obj_past ?_ ?_; · ((try simp only [DH.new_next, DH.set_next]); omega)))) rfl) ?_ | refine op_at (opD_eqb rfl rfl rfl rfl) ?_ | refine op_at (opD_neqb rfl rfl rfl rfl) ?_ | refine op_at rfl ?_); (all_goals try dsimp only [putD, DV.cells, DH.new_next, DH.set_next, List.length_cons, List.length_nil, Nat.reduceAdd, List.set_cons_zero, List.set_cons_succ, getD_zero, getD_succ, fieldAt_zero, fieldAt_succ, thenD, blockD, retR, AirV.dv]))
          | refine dwp_drawc _ rfl ?_
          | refine drawc_nil ?_
          | (refine drawc_pick_t (by first | exact wanted_plain rfl | exact wanted_on rfl rfl (by first | assumption | with_reducible rfl | decide)) rfl rfl (by first | assumption | with_reducible rfl | decide) rfl ?_; (all_goals try dsimp only [putD, DV.cells, DH.new_next, DH.set_next, List.length_cons, List.length_nil, Nat.reduceAdd, List.set_cons_zero, List.set_cons_succ, getD_zero, getD_succ, fieldAt_zero, fieldAt_succ, thenD, blockD, retR, AirV.dv]))
          | (refine drawc_pick_f (by first | exact wanted_plain rfl | exact wanted_on rfl rfl (by first | assumption | with_reducible rfl | decide)) rfl rfl (by first | assumption | with_reducible rfl | decide) rfl ?_; (all_goals try dsimp only [putD, DV.cells, DH.new_next, DH.set_next, List.length_cons, List.length_nil, Nat.reduceAdd, List.set_cons_zero, List.set_cons_succ, getD_zero, getD_succ, fieldAt_zero, fieldAt_succ, thenD, blockD, retR, AirV.dv]))
          | (refine drawc_pure (by first | exact wanted_plain rfl | exact wanted_on rfl rfl (by first | assumption | with_reducible rfl | decide)) rfl rfl rfl ?_; (all_goals try dsimp only [putD, DV.cells, DH.new_next, DH.set_next, List.length_cons, List.length_nil, Nat.reduceAdd, List.set_cons_zero, List.set_cons_succ, getD_zero, getD_succ, fieldAt_zero, fieldAt_succ, thenD, blockD, retR, AirV.dv]))
          | (refine drawc_read (by first | exact wanted_plain rfl | exact wanted_on rfl rfl (by first | assumption | with_reducible rfl | decide)) rfl rfl (by kernel_rfl) (opD_load rfl rfl (by repeat (first | assumption | (with_reducible refine obj_here ?_; rfl) | with_reducible exact obj_set | (with_reducible refine obj_skip ?_ ?_; · ((try simp only [DH.new_next, DH.set_next]); omega)) | (with_reducible refine obj_past ?_ ?_; · ((try simp only [DH.new_next, DH.set_next]); omega)))) rfl rfl) ?_; (all_goals try dsimp only [putD, DV.cells, DH.new_next, DH.set_next, List.length_cons, List.length_nil, Nat.reduceAdd, List.set_cons_zero, List.set_cons_succ, getD_zero, getD_succ, fieldAt_zero, fieldAt_succ, thenD, blockD, retR, AirV.dv]))
          | (refine drawc_read (by first | exact wanted_plain rfl | exact wanted_on rfl rfl (by first | assumption | with_reducible rfl | decide)) rfl rfl (by kernel_rfl) rfl ?_; (all_goals try dsimp only [putD, DV.cells, DH.new_next, DH.set_next, List.length_cons, List.length_nil, Nat.reduceAdd, List.set_cons_zero, List.set_cons_succ, getD_zero, getD_succ, fieldAt_zero, fieldAt_succ, thenD, blockD, retR, AirV.dv]))
          | (refine drawc_same (by first | exact wanted_plain rfl | exact wanted_on rfl rfl (by first | assumption | with_reducible rfl | decide)) rfl (by kernel_rfl) ?_; (first | (refine op_call rfl rfl rfl ?_; refine call_table (g := gCheck) rfl hchk ?_; refine ⟨rfl, ?_⟩) | (refine op_call rfl rfl rfl ?_; refine call_table (g := gOff) (r := .bool x.off) rfl rfl ?_; refine ⟨rfl, ?_⟩)); (all_goals try dsimp only [putD, DV.cells, DH.new_next, DH.set_next, List.length_cons, List.length_nil, Nat.reduceAdd, List.set_cons_zero, List.set_cons_succ, getD_zero, getD_succ, fieldAt_zero, fieldAt_succ, thenD, blockD, retR, AirV.dv]))
          | (refine drawc_sync (by first | exact wanted_plain rfl | exact wanted_on rfl rfl (by first | assumption | with_reducible rfl | decide)) rfl (by kernel_rfl) ?_; (first | (refine op_call rfl rfl rfl ?_; refine call_table (g := gCheck) rfl hchk ?_) | (refine op_call rfl rfl rfl ?_; refine call_table (g := gOff) (r := .bool x.off) rfl rfl ?_) | refine op_pick_t rfl rfl (by first | assumption | with_reducible rfl | decide) rfl ?_ | refine op_pick_f rfl rfl (by first | assumption | with_reducible rfl | decide) rfl ?_ | refine op_at (opD_load rfl rfl (by repeat (first | assumption | (with_reducible refine obj_here ?_; rfl) | with_reducible exact obj_set | (with_reducible refine obj_skip ?_ ?_; · ((try simp only [DH.new_next, DH.set_next]); omega)) | (with_reducible refine obj_past ?_ ?_; · ((try simp only [DH.new_next, DH.set_next]); omega)))) rfl rfl) ?_ | refine op_at (opD_store rfl rfl rfl rfl rfl (by repeat (first | assumption | (with_reducible refine obj_here ?_; rfl) | with_reducible exact obj_set | (with_reducible refine obj_skip ?_ ?_; · ((try simp only [DH.new_next, DH.set_next]); omega)) | (with_reducible refine obj_past ?_ ?_; · ((try simp only [DH.new_next, DH.set_next]); omega)))) rfl) ?_ | refine op_at (opD_eqb rfl rfl rfl rfl) ?_ | refine op_at (opD_neqb rfl rfl rfl rfl) ?_ | refine op_at rfl ?_); (all_goals try dsimp only [putD, DV.cells, DH.new_next, DH.set_next, List.length_cons, List.length_nil, Nat.reduceAdd, List.set_cons_zero, List.set_cons_succ, getD_zero, getD_succ, fieldAt_zero, fieldAt_succ, thenD, blockD, retR, AirV.dv]))
          | (refine drawc_off (by first | exact wanted_off1 rfl rfl (by first | assumption | with_reducible rfl | decide) | exact wanted_off0 rfl rfl (by first | assumption | with_reducible rfl | decide) | exact wanted_none rfl rfl) ?_; (all_goals try dsimp only [putD, DV.cells, DH.new_next, DH.set_next, List.length_cons, List.length_nil, Nat.reduceAdd, List.set_cons_zero, List.set_cons_succ, getD_zero, getD_succ, fieldAt_zero, fieldAt_succ, thenD, blockD, retR, AirV.dv]))
          | refine dwp_cond_t rfl (by first | assumption | with_reducible rfl | decide) ?_
          | refine dwp_cond_f rfl (by first | assumption | with_reducible rfl | decide) ?_
          | (refine dwp_cond rfl ?_ ?_ <;> intro hb)
          | refine dwp_block ?_
          | refine dwp_skip ?_
          | refine dwp_ret ?_
          | refine dwp_exit ?_
          | dsimp only [thenD, blockD, retR, AirV.dv]
          | (refine ⟨_, rfl, ?_⟩; try dsimp only)
          | fail)
        exact ⟨rfl, junk_eq rfl rfl⟩
      | false =>
        cases h3 : decide ((l.length : Int) > 0) with
        | false =>
          have hB : launchBad l x = false := by
            unfold launchBad
            rw [h1, h2]
            have : l = [] := by
              cases l with
              | nil => rfl
              | cons a l => simp at h3
            subst this
            rfl
          rw [hB]
          repeat' (first
            | refine dwp_seq ?_
            | refine dwp_region ?_
            | refine ops_nil ?_
            | (refine drawc_pure (wanted_on rfl rfl (by first | assumption | with_reducible rfl | decide)) rfl rfl (opD_index rfl rfl rfl rfl rfl hin) ?_; (all_goals try dsimp only [putD, DV.cells, DH.new_next, DH.set_next, List.length_cons, List.length_nil, Nat.reduceAdd, List.set_cons_zero, List.set_cons_succ, getD_zero, getD_succ, fieldAt_zero, fieldAt_succ, thenD, blockD, retR, AirV.dv]))
            | (refine drawc_read (wanted_on rfl rfl (by first | assumption | with_reducible rfl | decide)) rfl rfl (by kernel_rfl) (opD_load rfl rfl ho hrk rfl) ?_; (all_goals try dsimp only [putD, DV.cells, DH.new_next, DH.set_next, List.length_cons, List.length_nil, Nat.reduceAdd, List.set_cons_zero, List.set_cons_succ, getD_zero, getD_succ, fieldAt_zero, fieldAt_succ, thenD, blockD, retR, AirV.dv]))
            | (refine ops_plain rfl ?_; (first | (refine op_call rfl rfl rfl ?_; refine call_table (g := gCheck) rfl hchk ?_) | (refine op_call rfl rfl rfl ?_; refine call_table (g := gOff) (r := .bool x.off) rfl rfl ?_) | refine op_pick_t rfl rfl (by first | assumption | with_reducible rfl | decide) rfl ?_ | refine op_pick_f rfl rfl (by first | assumption | with_reducible rfl | decide) rfl ?_ | refine op_at (opD_load rfl rfl (by repeat (first | assumption | (with_reducible refine obj_here ?_; rfl) | with_reducible exact obj_set | (with_reducible refine obj_skip ?_ ?_; · ((try simp only [DH.new_next, DH.set_next]); omega)) | (with_reducible refine obj_past ?_ ?_; · ((try simp only [DH.new_next, DH.set_next]); omega)))) rfl rfl) ?_ | refine op_at (opD_store rfl rfl rfl rfl rfl (by repeat (first | assumption | (with_reducible refine obj_here ?_; rfl) | with_reducible exact obj_set | (with_reducible refine obj_skip ?_ ?_; · ((try simp only [DH.new_next, DH.set_next]); omega)) | (with_reducible refine obj_past ?_ ?_; · ((try simp only [DH.new_next, DH.set_next]); omega)))) rfl) ?_ | refine op_at (opD_eqb rfl rfl rfl rfl) ?_ | refine op_at (opD_neqb rfl rfl rfl rfl) ?_ | refine op_at rfl ?_); (all_goals try dsimp only [putD, DV.cells, DH.new_next, DH.set_next, List.length_cons, List.length_nil, Nat.reduceAdd, List.set_cons_zero, List.set_cons_succ, getD_zero, getD_succ, fieldAt_zero, fieldAt_succ, thenD, blockD, retR, AirV.dv]))
            | (refine ops_on rfl rfl (by first | assumption | with_reducible rfl | decide) ?_; (first | (refine op_call rfl rfl rfl ?_; refine call_table (g := gCheck) rfl hchk ?_) | (refine op_call rfl rfl rfl ?_; refine call_table (g := gOff) (r := .bool x.off) rfl rfl ?_) | refine op_pick_t rfl rfl (by first | assumption | with_reducible rfl | decide) rfl ?_ | refine op_pick_f rfl rfl (by first | assumption | with_reducible rfl | decide) rfl ?_ | refine op_at (opD_load rfl rfl (by repeat (first | assumption | (with_reducible refine obj_here ?_; rfl) | with_reducible exact obj_set | (with_reducible refine obj_skip ?_ ?_; · ((try simp only [DH.new_next, DH.set_next]); omega)) | (with_reducible refine obj_past ?_ ?_; · ((try simp only [DH.new_next, DH.set_next]); omega)))) rfl rfl) ?_ | refine op_at (opD_store rfl rfl rfl rfl rfl (by repeat (first | assumption | (with_reducible refine obj_here ?_; rfl) | with_reducible exact obj_set | (with_reducible refine obj_skip ?_ ?_; · ((try simp only [DH.new_next, DH.set_next]); omega)) | (with_reducible refine obj_past ?_ ?_; · ((try simp only [DH.new_next, DH.set_next]); omega)))) rfl) ?_ | refine op_at (opD_eqb rfl rfl rfl rfl) ?_ | refine op_at (opD_neqb rfl rfl rfl rfl) ?_ | refine op_at rfl ?_); (all_goals try dsimp only [putD, DV.cells, DH.new_next, DH.set_next, List.length_cons, List.length_nil, Nat.reduceAdd, List.set_cons_zero, List.set_cons_succ, getD_zero, getD_succ, fieldAt_zero, fieldAt_succ, thenD, blockD, retR, AirV.dv]))
            | (refine ops_off1 rfl rfl (by first | assumption | with_reducible rfl | decide) ?_; (all_goals try dsimp only [putD, DV.cells, DH.new_next, DH.set_next, List.length_cons, List.length_nil, Nat.reduceAdd, List.set_cons_zero, List.set_cons_succ, getD_zero, getD_succ, fieldAt_zero, fieldAt_succ, thenD, blockD, retR, AirV.dv]))
            | (refine ops_off0 rfl rfl (by first | assumption | with_reducible rfl | decide) ?_; (all_goals try dsimp only [putD, DV.cells, DH.new_next, DH.set_next, List.length_cons, List.length_nil, Nat.reduceAdd, List.set_cons_zero, List.set_cons_succ, getD_zero, getD_succ, fieldAt_zero, fieldAt_succ, thenD, blockD, retR, AirV.dv]))
            | (refine ops_split1 rfl rfl ?_ ?_ <;> intro hb)
            | (refine ops_split0 rfl rfl ?_ ?_ <;> intro hb)
            | ((first | (refine op_call rfl rfl rfl ?_; refine call_table (g := gCheck) rfl hchk ?_) | (refine op_call rfl rfl rfl ?_; refine call_table (g := gOff) (r := .bool x.off) rfl rfl ?_) | refine op_pick_t rfl rfl (by first | assumption | with_reducible rfl | decide) rfl ?_ | refine op_pick_f rfl rfl (by first | assumption | with_reducible rfl | decide) rfl ?_ | refine op_at (opD_load rfl rfl (by repeat (first | assumption | (with_reducible refine obj_here ?_; rfl) | with_reducible exact obj_set | (with_reducible refine obj_skip ?_ ?_; · ((try simp only [DH.new_next, DH.set_next]); omega)) | (with_reducible refine obj_past ?_ ?_; · ((try simp only [DH.new_next, DH.set_next]); omega)))) rfl rfl) ?_ | refine op_at (opD_store rfl rfl rfl rfl rfl (by repeat (first | assumption | (with_reducible refine obj_here ?_; rfl) | with_reducible exact obj_set | (with_reducible refine obj_skip ?_ ?_; · ((try simp only [DH.new_next, DH.set_next]); omega)) | (with_reducible refine obj_past ?_ ?_; · ((try simp only [DH.new_next, DH.set_next]); omega)))) rfl) ?_ | refine op_at (opD_eqb rfl rfl rfl rfl) ?_ | refine op_at (opD_neqb rfl rfl rfl rfl) ?_ | refine op_at rfl ?_); (all_goals try dsimp only [putD, DV.cells, DH.new_next, DH.set_next, List.length_cons, List.length_nil, Nat.reduceAdd, List.set_cons_zero, List.set_cons_succ, getD_zero, getD_succ, fieldAt_zero, fieldAt_succ, thenD, blockD, retR, AirV.dv]))
            | refine dwp_drawc _ rfl ?_
            | refine drawc_nil ?_
            | (refine drawc_pick_t (by first | exact wanted_plain rfl | exact wanted_on rfl rfl (by first | assumption | with_reducible rfl | decide)) rfl rfl (by first | assumption | with_reducible rfl | decide) rfl ?_; (all_goals try dsimp only [putD, DV.cells, DH.new_next, DH.set_next, List.length_cons, List.length_nil, Nat.reduceAdd, List.set_cons_zero, List.set_cons_succ, getD_zero, getD_succ, fieldAt_zero, fieldAt_succ, thenD, blockD, retR, AirV.dv]))
            | (refine drawc_pick_f (by first | exact wanted_plain rfl | exact wanted_on rfl rfl (by first | assumption | with_reducible rfl | decide)) rfl rfl (by first | assumption | with_reducible rfl | decide) rfl ?_; (all_goals try dsimp only [putD, DV.cells, DH.new_next, DH.set_next, List.length_cons, List.length_nil, Nat.reduceAdd, List.set_cons_zero, List.set_cons_succ, getD_zero, getD_succ, fieldAt_zero, fieldAt_succ, thenD, blockD, retR, AirV.dv]))
            | (refine drawc_pure (by first | exact wanted_plain rfl | exact wanted_on rfl rfl (by first | assumption | with_reducible rfl | decide)) rfl rfl rfl ?_; (all_goals try dsimp only [putD, DV.cells, DH.new_next, DH.set_next, List.length_cons, List.length_nil, Nat.reduceAdd, List.set_cons_zero, List.set_cons_succ, getD_zero, getD_succ, fieldAt_zero, fieldAt_succ, thenD, blockD, retR, AirV.dv]))
            | (refine drawc_read (by first | exact wanted_plain rfl | exact wanted_on rfl rfl (by first | assumption | with_reducible rfl | decide)) rfl rfl (by kernel_rfl) (opD_load rfl rfl (by repeat (first | assumption | (with_reducible refine obj_here ?_; rfl) | with_reducible exact obj_set | (with_reducible refine obj_skip ?_ ?_; · ((try simp only [DH.new_next, DH.set_next]); omega)) | (with_reducible refine obj_past ?_ ?_; · ((try simp only [DH.new_next, DH.set_next]); omega)))) rfl rfl) ?_; (all_goals try dsimp only [putD, DV.cells, DH.new_next, DH.set_next, List.length_cons, List.length_nil, Nat.reduceAdd, List.set_cons_zero, List.set_cons_succ, getD_zero, getD_succ, fieldAt_zero, fieldAt_succ, thenD, blockD, retR, AirV.dv]))
            | (refine drawc_read (by first | exact wanted_plain rfl | exact wanted_on rfl rfl (by first | assumption | with_reducible rfl | decide)) rfl rfl (by kernel_rfl) rfl ?_; (all_goals try dsimp only [putD, DV.cells, DH.new_next, DH.set_next, List.length_cons, List.length_nil, Nat.reduceAdd, List.set_cons_zero, List.set_cons_succ, getD_zero, getD_succ, fieldAt_zero, fieldAt_succ, thenD, blockD, retR, AirV.dv]))
            | (refine drawc_same (by first | exact wanted_plain rfl | exact wanted_on rfl rfl (by first | assumption | with_reducible rfl | decide)) rfl (by kernel_rfl) ?_; (first | (refine op_call rfl rfl rfl ?_; refine call_table (g := gCheck) rfl hchk ?_; refine ⟨rfl, ?_⟩) | (refine op_call rfl rfl rfl ?_; refine call_table (g := gOff) (r := .bool x.off) rfl rfl ?_; refine ⟨rfl, ?_⟩)); (all_goals try dsimp only [putD, DV.cells, DH.new_next, DH.set_next, List.length_cons, List.length_nil, Nat.reduceAdd, List.set_cons_zero, List.set_cons_succ, getD_zero, getD_succ, fieldAt_zero, fieldAt_succ, thenD, blockD, retR, AirV.dv]))
            | (refine drawc_sync (by first | exact wanted_plain rfl | exact wanted_on rfl rfl (by first | assumption | with_reducible rfl | decide)) rfl (by kernel_rfl) ?_; (first | (refine op_call rfl rfl rfl ?_; refine call_table (g := gCheck) rfl hchk ?_) | (refine op_call rfl rfl rfl ?_; refine call_table (g := gOff) (r := .bool x.off) rfl rfl ?_) | refine op_pick_t rfl rfl (by first | assumption | with_reducible rfl | decide) rfl ?_ | refine op_pick_f rfl rfl (by first | assumption | with_reducible rfl | decide) rfl ?_ | refine op_at (opD_load rfl rfl (by repeat (first | assumption | (with_reducible refine obj_here ?_; rfl) | with_reducible exact obj_set | (with_reducible refine obj_skip ?_ ?_; · ((try simp only [DH.new_next, DH.set_next]); omega)) | (with_reducible refine obj_past ?_ ?_; · ((try simp only [DH.new_next, DH.set_next]); omega)))) rfl rfl) ?_ | refine op_at (opD_store rfl rfl rfl rfl rfl (by repeat (first | assumption | (with_reducible refine obj_here ?_; rfl) | with_reducible exact obj_set | (with_reducible refine obj_skip ?_ ?_; · ((try simp only [DH.new_next, DH.set_next]); omega)) | (with_reducible refine obj_past ?_ ?_; · ((try simp only [DH.new_next, DH.set_next]); omega)))) rfl) ?_ | refine op_at (opD_eqb rfl rfl rfl rfl) ?_ | refine op_at (opD_neqb rfl rfl rfl rfl) ?_ | refine op_at rfl ?_); (all_goals try dsimp only [putD, DV.cells, DH.new_next, DH.set_next, List.length_cons, List.length_nil, Nat.reduceAdd, List.set_cons_zero, List.set_cons_succ, getD_zero, getD_succ, fieldAt_zero, fieldAt_succ, thenD, blockD, retR, AirV.dv]))
            | (refine drawc_off (by first | exact wanted_off1 rfl rfl (by first | assumption | with_reducible rfl | decide) | exact wanted_off0 rfl rfl (by first | assumption | with_reducible rfl | decide) | exact wanted_none rfl rfl) ?_; (all_goals try dsimp only [putD, DV.cells, DH.new_next, DH.set_next, List.length_cons, List.length_nil, Nat.reduceAdd, List.set_cons_zero, List.set_cons_succ, getD_zero, getD_succ, fieldAt_zero, fieldAt_succ, thenD, blockD, retR, AirV.dv]))
            | refine dwp_cond_t rfl (by first | assumption | with_reducible rfl | decide) ?_
            | refine dwp_cond_f rfl (by first | assumption | with_reducible rfl | decide) ?_
            | (refine dwp_cond rfl ?_ ?_ <;> intro hb)
            | refine dwp_block ?_
            | refine dwp_skip ?_
            | refine dwp_ret ?_
            | refine dwp_exit ?_
            | dsimp only [thenD, blockD, retR, AirV.dv]
            | (refine ⟨_, rfl, ?_⟩; try dsimp only)
            | fail)
          exact ⟨rfl, junk_eq rfl rfl⟩
        | true =>
          have hpos : 0 < l.length := by simp only [decide_eq_true_eq] at h3; omega
          obtain ⟨a, ha⟩ : ∃ a, l[l.length - 1]? = some a := ⟨l[l.length - 1], List.getElem?_eq_getElem (by omega)⟩
          have hB : launchBad l x = decide (a.id ≥ x.id) := by
            unfold launchBad
            rw [h1, h2, ha]
            rfl
          rw [hB]
          obtain ⟨loc, i, ro, rs, rfl, hloc, ho, hrow⟩ := hl1.sl.rd (k := l.length - 1) (r := a.cells) (by rw [List.getElem?_map, ha]; rfl)
          have hws := wrapSub' (k := l.length) hpos (by have := hl.len; unfold maxLen at this; omega)
          have hrk : rs[i + (IntKind.i64.wrap ((l.length : Int) - 1)).toNat]? = some a.cells := by rw [hws, Int.toNat_natCast]; exact hrow
          have hin : 0 ≤ IntKind.i64.wrap ((l.length : Int) - 1) ∧ IntKind.i64.wrap ((l.length : Int) - 1) < (l.length : Int) := by rw [hws]; omega
          repeat' (first
            | refine dwp_seq ?_
            | refine dwp_region ?_
            | refine ops_nil ?_
            | (refine drawc_pure (wanted_on rfl rfl (by first | assumption | with_reducible rfl | decide)) rfl rfl (opD_index rfl rfl rfl rfl rfl hin) ?_; (all_goals try dsimp only [putD, DV.cells, DH.new_next, DH.set_next, List.length_cons, List.length_nil, Nat.reduceAdd, List.set_cons_zero, List.set_cons_succ, getD_zero, getD_succ, fieldAt_zero, fieldAt_succ, thenD, blockD, retR, AirV.dv]))
            | (refine drawc_read (wanted_on rfl rfl (by first | assumption | with_reducible rfl | decide)) rfl rfl (by kernel_rfl) (opD_load rfl rfl ho hrk rfl) ?_; (all_goals try dsimp only [putD, DV.cells, DH.new_next, DH.set_next, List.length_cons, List.length_nil, Nat.reduceAdd, List.set_cons_zero, List.set_cons_succ, getD_zero, getD_succ, fieldAt_zero, fieldAt_succ, thenD, blockD, retR, AirV.dv]))
            | (refine ops_plain rfl ?_; (first | (refine op_call rfl rfl rfl ?_; refine call_table (g := gCheck) rfl hchk ?_) | (refine op_call rfl rfl rfl ?_; refine call_table (g := gOff) (r := .bool x.off) rfl rfl ?_) | refine op_pick_t rfl rfl (by first | assumption | with_reducible rfl | decide) rfl ?_ | refine op_pick_f rfl rfl (by first | assumption | with_reducible rfl | decide) rfl ?_ | refine op_at (opD_load rfl rfl (by repeat (first | assumption | (with_reducible refine obj_here ?_; rfl) | with_reducible exact obj_set | (with_reducible refine obj_skip ?_ ?_; · ((try simp only [DH.new_next, DH.set_next]); omega)) | (with_reducible refine obj_past ?_ ?_; · ((try simp only [DH.new_next, DH.set_next]); omega)))) rfl rfl) ?_ | refine op_at (opD_store rfl rfl rfl rfl rfl (by repeat (first | assumption | (with_reducible refine obj_here ?_; rfl) | with_reducible exact obj_set | (with_reducible refine obj_skip ?_ ?_; · ((try simp only [DH.new_next, DH.set_next]); omega)) | (with_reducible refine obj_past ?_ ?_; · ((try simp only [DH.new_next, DH.set_next]); omega)))) rfl) ?_ | refine op_at (opD_eqb rfl rfl rfl rfl) ?_ | refine op_at (opD_neqb rfl rfl rfl rfl) ?_ | refine op_at rfl ?_); (all_goals try dsimp only [putD, DV.cells, DH.new_next, DH.set_next, List.length_cons, List.length_nil, Nat.reduceAdd, List.set_cons_zero, List.set_cons_succ, getD_zero, getD_succ, fieldAt_zero, fieldAt_succ, thenD, blockD, retR, AirV.dv]))
            | (refine ops_on rfl rfl (by first | assumption | with_reducible rfl | decide) ?_; (first | (refine op_call rfl rfl rfl ?_; refine call_table (g := gCheck) rfl hchk ?_) | (refine op_call rfl rfl rfl ?_; refine call_table (g := gOff) (r := .bool x.off) rfl rfl ?_) | refine op_pick_t rfl rfl (by first | assumption | with_reducible rfl | decide) rfl ?_ | refine op_pick_f rfl rfl (by first | assumption | with_reducible rfl | decide) rfl ?_ | refine op_at (opD_load rfl rfl (by repeat (first | assumption | (with_reducible refine obj_here ?_; rfl) | with_reducible exact obj_set | (with_reducible refine obj_skip ?_ ?_; · ((try simp only [DH.new_next, DH.set_next]); omega)) | (with_reducible refine obj_past ?_ ?_; · ((try simp only [DH.new_next, DH.set_next]); omega)))) rfl rfl) ?_ | refine op_at (opD_store rfl rfl rfl rfl rfl (by repeat (first | assumption | (with_reducible refine obj_here ?_; rfl) | with_reducible exact obj_set | (with_reducible refine obj_skip ?_ ?_; · ((try simp only [DH.new_next, DH.set_next]); omega)) | (with_reducible refine obj_past ?_ ?_; · ((try simp only [DH.new_next, DH.set_next]); omega)))) rfl) ?_ | refine op_at (opD_eqb rfl rfl rfl rfl) ?_ | refine op_at (opD_neqb rfl rfl rfl rfl) ?_ | refine op_at rfl ?_); (all_goals try dsimp only [putD, DV.cells, DH.new_next, DH.set_next, List.length_cons, List.length_nil, Nat.reduceAdd, List.set_cons_zero, List.set_cons_succ, getD_zero, getD_succ, fieldAt_zero, fieldAt_succ, thenD, blockD, retR, AirV.dv]))
            | (refine ops_off1 rfl rfl (by first | assumption | with_reducible rfl | decide) ?_; (all_goals try dsimp only [putD, DV.cells, DH.new_next, DH.set_next, List.length_cons, List.length_nil, Nat.reduceAdd, List.set_cons_zero, List.set_cons_succ, getD_zero, getD_succ, fieldAt_zero, fieldAt_succ, thenD, blockD, retR, AirV.dv]))
            | (refine ops_off0 rfl rfl (by first | assumption | with_reducible rfl | decide) ?_; (all_goals try dsimp only [putD, DV.cells, DH.new_next, DH.set_next, List.length_cons, List.length_nil, Nat.reduceAdd, List.set_cons_zero, List.set_cons_succ, getD_zero, getD_succ, fieldAt_zero, fieldAt_succ, thenD, blockD, retR, AirV.dv]))
            | (refine ops_split1 rfl rfl ?_ ?_ <;> intro hb)
            | (refine ops_split0 rfl rfl ?_ ?_ <;> intro hb)
            | ((first | (refine op_call rfl rfl rfl ?_; refine call_table (g := gCheck) rfl hchk ?_) | (refine op_call rfl rfl rfl ?_; refine call_table (g := gOff) (r := .bool x.off) rfl rfl ?_) | refine op_pick_t rfl rfl (by first | assumption | with_reducible rfl | decide) rfl ?_ | refine op_pick_f rfl rfl (by first | assumption | with_reducible rfl | decide) rfl ?_ | refine op_at (opD_load rfl rfl (by repeat (first | assumption | (with_reducible refine obj_here ?_; rfl) | with_reducible exact obj_set | (with_reducible refine obj_skip ?_ ?_; · ((try simp only [DH.new_next, DH.set_next]); omega)) | (with_reducible refine obj_past ?_ ?_; · ((try simp only [DH.new_next, DH.set_next]); omega)))) rfl rfl) ?_ | refine op_at (opD_store rfl rfl rfl rfl rfl (by repeat (first | assumption | (with_reducible refine obj_here ?_; rfl) | with_reducible exact obj_set | (with_reducible refine obj_skip ?_ ?_; · ((try simp only [DH.new_next, DH.set_next]); omega)) | (with_reducible refine obj_past ?_ ?_; · ((try simp only [DH.new_next, DH.set_next]); omega)))) rfl) ?_ | refine op_at (opD_eqb rfl rfl rfl rfl) ?_ | refine op_at (opD_neqb rfl rfl rfl rfl) ?_ | refine op_at rfl ?_); (all_goals try dsimp only [putD, DV.cells, DH.new_next, DH.set_next, List.length_cons, List.length_nil, Nat.reduceAdd, List.set_cons_zero, List.set_cons_succ, getD_zero, getD_succ, fieldAt_zero, fieldAt_succ, thenD, blockD, retR, AirV.dv]))
            | refine dwp_drawc _ rfl ?_
            | refine drawc_nil ?_
            | (refine drawc_pick_t (by first | exact wanted_plain rfl | exact wanted_on rfl rfl (by first | assumption | with_reducible rfl | decide)) rfl rfl (by first | assumption | with_reducible rfl | decide) rfl ?_; (all_goals try dsimp only [putD, DV.cells, DH.new_next, DH.set_next, List.length_cons, List.length_nil, Nat.reduceAdd, List.set_cons_zero, List.set_cons_succ, getD_zero, getD_succ, fieldAt_zero, fieldAt_succ, thenD, blockD, retR, AirV.dv]))
            | (refine drawc_pick_f (by first | exact wanted_plain rfl | exact wanted_on rfl rfl (by first | assumption | with_reducible rfl | decide)) rfl rfl (by first | assumption | with_reducible rfl | decide) rfl ?_; (all_goals try dsimp only [putD, DV.cells, DH.new_next, DH.set_next, List.length_cons, List.length_nil, Nat.reduceAdd, List.set_cons_zero, List.set_cons_succ, getD_zero, getD_succ, fieldAt_zero, fieldAt_succ, thenD, blockD, retR, AirV.dv]))
            | (refine drawc_pure (by first | exact wanted_plain rfl | exact wanted_on rfl rfl (by first | assumption | with_reducible rfl | decide)) rfl rfl rfl ?_; (all_goals try dsimp only [putD, DV.cells, DH.new_next, DH.set_next, List.length_cons, List.length_nil, Nat.reduceAdd, List.set_cons_zero, List.set_cons_succ, getD_zero, getD_succ, fieldAt_zero, fieldAt_succ, thenD, blockD, retR, AirV.dv]))
            | (refine drawc_read (by first | exact wanted_plain rfl | exact wanted_on rfl rfl (by first | assumption | with_reducible rfl | decide)) rfl rfl (by kernel_rfl) (opD_load rfl rfl (by repeat (first | assumption | (with_reducible refine obj_here ?_; rfl) | with_reducible exact obj_set | (with_reducible refine obj_skip ?_ ?_; · ((try simp only [DH.new_next, DH.set_next]); omega)) | (with_reducible refine obj_past ?_ ?_; · ((try simp only [DH.new_next, DH.set_next]); omega)))) rfl rfl) ?_; (all_goals try dsimp only [putD, DV.cells, DH.new_next, DH.set_next, List.length_cons, List.length_nil, Nat.reduceAdd, List.set_cons_zero, List.set_cons_succ, getD_zero, getD_succ, fieldAt_zero, fieldAt_succ, thenD, blockD, retR, AirV.dv]))
            | (refine drawc_read (by first | exact wanted_plain rfl | exact wanted_on rfl rfl (by first | assumption | with_reducible rfl | decide)) rfl rfl (by kernel_rfl) rfl ?_; (all_goals try dsimp only [putD, DV.cells, DH.new_next, DH.set_next, List.length_cons, List.length_nil, Nat.reduceAdd, List.set_cons_zero, List.set_cons_succ, getD_zero, getD_succ, fieldAt_zero, fieldAt_succ, thenD, blockD, retR, AirV.dv]))
            | (refine drawc_same (by first | exact wanted_plain rfl | exact wanted_on rfl rfl (by first | assumption | with_reducible rfl | decide)) rfl (by kernel_rfl) ?_; (first | (refine op_call rfl rfl rfl ?_; refine call_table (g := gCheck) rfl hchk ?_; refine ⟨rfl, ?_⟩) | (refine op_call rfl rfl rfl ?_; refine call_table (g := gOff) (r := .bool x.off) rfl rfl ?_; refine ⟨rfl, ?_⟩)); (all_goals try dsimp only [putD, DV.cells, DH.new_next, DH.set_next, List.length_cons, List.length_nil, Nat.reduceAdd, List.set_cons_zero, List.set_cons_succ, getD_zero, getD_succ, fieldAt_zero, fieldAt_succ, thenD, blockD, retR, AirV.dv]))
            | (refine drawc_sync (by first | exact wanted_plain rfl | exact wanted_on rfl rfl (by first | assumption | with_reducible rfl | decide)) rfl (by kernel_rfl) ?_; (first | (refine op_call rfl rfl rfl ?_; refine call_table (g := gCheck) rfl hchk ?_) | (refine op_call rfl rfl rfl ?_; refine call_table (g := gOff) (r := .bool x.off) rfl rfl ?_) | refine op_pick_t rfl rfl (by first | assumption | with_reducible rfl | decide) rfl ?_ | refine op_pick_f rfl rfl (by first | assumption | with_reducible rfl | decide) rfl ?_ | refine op_at (opD_load rfl rfl (by repeat (first | assumption | (with_reducible refine obj_here ?_; rfl) | with_reducible exact obj_set | (with_reducible refine obj_skip ?_ ?_; · ((try simp only [DH.new_next, DH.set_next]); omega)) | (with_reducible refine obj_past ?_ ?_; · ((try simp only [DH.new_next, DH.set_next]); omega)))) rfl rfl) ?_ | refine op_at (opD_store rfl rfl rfl rfl rfl (by repeat (first | assumption | (with_reducible refine obj_here ?_; rfl) | with_reducible exact obj_set | (with_reducible refine obj_skip ?_ ?_; · ((try simp only [DH.new_next, DH.set_next]); omega)) | (with_reducible refine obj_past ?_ ?_; · ((try simp only [DH.new_next, DH.set_next]); omega)))) rfl) ?_ | refine op_at (opD_eqb rfl rfl rfl rfl) ?_ | refine op_at (opD_neqb rfl rfl rfl rfl) ?_ | refine op_at rfl ?_); (all_goals try dsimp only [putD, DV.cells, DH.new_next, DH.set_next, List.length_cons, List.length_nil, Nat.reduceAdd, List.set_cons_zero, List.set_cons_succ, getD_zero, getD_succ, fieldAt_zero, fieldAt_succ, thenD, blockD, retR, AirV.dv]))
            | (refine drawc_off (by first | exact wanted_off1 rfl rfl (by first | assumption | with_reducible rfl | decide) | exact wanted_off0 rfl rfl (by first | assumption | with_reducible rfl | decide) | exact wanted_none rfl rfl) ?_; (all_goals try dsimp only [putD, DV.cells, DH.new_next, DH.set_next, List.length_cons, List.length_nil, Nat.reduceAdd, List.set_cons_zero, List.set_cons_succ, getD_zero, getD_succ, fieldAt_zero, fieldAt_succ, thenD, blockD, retR, AirV.dv]))
            | refine dwp_cond_t rfl (by first | assumption | with_reducible rfl | decide) ?_
            | refine dwp_cond_f rfl (by first | assumption | with_reducible rfl | decide) ?_
            | (refine dwp_cond rfl ?_ ?_ <;> intro hb)
            | refine dwp_block ?_
            | refine dwp_skip ?_
            | refine dwp_ret ?_
            | refine dwp_exit ?_
            | dsimp only [thenD, blockD, retR, AirV.dv]
            | (refine ⟨_, rfl, ?_⟩; try dsimp only)
            | fail)
          exact ⟨rfl, junk_eq rfl rfl⟩
  · rintro e st ⟨rfl, J, rfl⟩
    try dsimp only [thenD]
    repeat' (first
      | refine dwp_seq ?_
      | refine dwp_region ?_
      | refine ops_nil ?_
      | (refine ops_plain rfl ?_; (first | refine op_pick_t rfl rfl (by first | assumption | with_reducible rfl | decide) rfl ?_ | refine op_pick_f rfl rfl (by first | assumption | with_reducible rfl | decide) rfl ?_ | refine op_at (opD_load rfl rfl (by repeat (first | assumption | (with_reducible refine obj_here ?_; rfl) | with_reducible exact obj_set | (with_reducible refine obj_skip ?_ ?_; · ((try simp only [DH.new_next, DH.set_next]); omega)) | (with_reducible refine obj_past ?_ ?_; · ((try simp only [DH.new_next, DH.set_next]); omega)))) rfl rfl) ?_ | refine op_at (opD_store rfl rfl rfl rfl rfl (by repeat (first | assumption | (with_reducible refine obj_here ?_; rfl) | with_reducible exact obj_set | (with_reducible refine obj_skip ?_ ?_; · ((try simp only [DH.new_next, DH.set_next]); omega)) | (with_reducible refine obj_past ?_ ?_; · ((try simp only [DH.new_next, DH.set_next]); omega)))) rfl) ?_ | refine op_at (opD_eqb rfl rfl rfl rfl) ?_ | refine op_at (opD_neqb rfl rfl rfl rfl) ?_ | refine op_at rfl ?_); (all_goals try dsimp only [putD, DV.cells, DH.new_next, DH.set_next, List.length_cons, List.length_nil, Nat.reduceAdd, List.set_cons_zero, List.set_cons_succ, getD_zero, getD_succ, fieldAt_zero, fieldAt_succ, thenD, blockD, retR, AirV.dv]))
      | (refine ops_on rfl rfl (by first | assumption | with_reducible rfl | decide) ?_; (first | refine op_pick_t rfl rfl (by first | assumption | with_reducible rfl | decide) rfl ?_ | refine op_pick_f rfl rfl (by first | assumption | with_reducible rfl | decide) rfl ?_ | refine op_at (opD_load rfl rfl (by repeat (first | assumption | (with_reducible refine obj_here ?_; rfl) | with_reducible exact obj_set | (with_reducible refine obj_skip ?_ ?_; · ((try simp only [DH.new_next, DH.set_next]); omega)) | (with_reducible refine obj_past ?_ ?_; · ((try simp only [DH.new_next, DH.set_next]); omega)))) rfl rfl) ?_ | refine op_at (opD_store rfl rfl rfl rfl rfl (by repeat (first | assumption | (with_reducible refine obj_here ?_; rfl) | with_reducible exact obj_set | (with_reducible refine obj_skip ?_ ?_; · ((try simp only [DH.new_next, DH.set_next]); omega)) | (with_reducible refine obj_past ?_ ?_; · ((try simp only [DH.new_next, DH.set_next]); omega)))) rfl) ?_ | refine op_at (opD_eqb rfl rfl rfl rfl) ?_ | refine op_at (opD_neqb rfl rfl rfl rfl) ?_ | refine op_at rfl ?_); (all_goals try dsimp only [putD, DV.cells, DH.new_next, DH.set_next, List.length_cons, List.length_nil, Nat.reduceAdd, List.set_cons_zero, List.set_cons_succ, getD_zero, getD_succ, fieldAt_zero, fieldAt_succ, thenD, blockD, retR, AirV.dv]))
      | (refine ops_off1 rfl rfl (by first | assumption | with_reducible rfl | decide) ?_; (all_goals try dsimp only [putD, DV.cells, DH.new_next, DH.set_next, List.length_cons, List.length_nil, Nat.reduceAdd, List.set_cons_zero, List.set_cons_succ, getD_zero, getD_succ, fieldAt_zero, fieldAt_succ, thenD, blockD, retR, AirV.dv]))
      | (refine ops_off0 rfl rfl (by first | assumption | with_reducible rfl | decide) ?_; (all_goals try dsimp only [putD, DV.cells, DH.new_next, DH.set_next, List.length_cons, List.length_nil, Nat.reduceAdd, List.set_cons_zero, List.set_cons_succ, getD_zero, getD_succ, fieldAt_zero, fieldAt_succ, thenD, blockD, retR, AirV.dv]))
      | (refine ops_split1 rfl rfl ?_ ?_ <;> intro hb)
      | (refine ops_split0 rfl rfl ?_ ?_ <;> intro hb)
      | ((first | refine op_pick_t rfl rfl (by first | assumption | with_reducible rfl | decide) rfl ?_ | refine op_pick_f rfl rfl (by first | assumption | with_reducible rfl | decide) rfl ?_ | refine op_at (opD_load rfl rfl (by repeat (first | assumption | (with_reducible refine obj_here ?_; rfl) | with_reducible exact obj_set | (with_reducible refine obj_skip ?_ ?_; · ((try simp only [DH.new_next, DH.set_next]); omega)) | (with_reducible refine obj_past ?_ ?_; · ((try simp only [DH.new_next, DH.set_next]); omega)))) rfl rfl) ?_ | refine op_at (opD_store rfl rfl rfl rfl rfl (by repeat (first | assumption | (with_reducible refine obj_here ?_; rfl) | with_reducible exact obj_set | (with_reducible refine obj_skip ?_ ?_; · ((try simp only [DH.new_next, DH.set_next]); omega)) | (with_reducible refine obj_past ?_ ?_; · ((try simp only [DH.new_next, DH.set_next]); omega)))) rfl) ?_ | refine op_at (opD_eqb rfl rfl rfl rfl) ?_ | refine op_at (opD_neqb rfl rfl rfl rfl) ?_ | refine op_at rfl ?_); (all_goals try dsimp only [putD, DV.cells, DH.new_next, DH.set_next, List.length_cons, List.length_nil, Nat.reduceAdd, List.set_cons_zero, List.set_cons_succ, getD_zero, getD_succ, fieldAt_zero, fieldAt_succ, thenD, blockD, retR, AirV.dv]))
      | refine dwp_cond_t rfl (by first | assumption | with_reducible rfl | decide) ?_
      | refine dwp_cond_f rfl (by first | assumption | with_reducible rfl | decide) ?_
      | (refine dwp_cond rfl ?_ ?_ <;> intro hb)
      | refine dwp_block ?_
      | refine dwp_skip ?_
      | refine dwp_ret ?_
      | refine dwp_exit ?_
      | dsimp only [thenD, blockD, retR, AirV.dv]
      | (refine ⟨_, rfl, ?_⟩; try dsimp only)
      | fail)
    · refine ⟨hab1, .inl ⟨?_, ?_⟩⟩
      · unfold launchE; rw [if_pos (by assumption)]; decide
      · unfold launchE; rw [if_pos (by assumption)]; rfl
    · have h256 : l.length = 256 := by simp only [beq_iff_eq] at *; omega
      refine ⟨hab1, .inl ⟨?_, ?_⟩⟩
      · unfold launchE; rw [if_neg (by simp [*]), if_pos h256]; decide
      · unfold launchE; rw [if_neg (by simp [*]), if_pos h256]; rfl
    · rename_i hb0
      have hbad : launchBad l x = false := by assumption
      have hne : l.length ≠ 256 := by simp only [beq_eq_false_iff_ne, ne_eq] at *; omega
      have hE : launchE l x = 0 := by unfold launchE; rw [if_neg (by simp [hbad]), if_neg hne]
      have hck : checkI l = 0 := by
        have := hbad
        unfold launchBad at this
        simp only [Bool.or_eq_false_iff, bne_eq_false_iff_eq] at this
        exact this.1.1
      have hoff : x.off = false := by
        have := hbad
        unfold launchBad at this
        simp only [Bool.or_eq_false_iff] at this
        exact this.1.2
      obtain ⟨hle, hn64⟩ := check_small hck
      have hxn := off_small hoff
      refine dwp_drawp _ rfl (fun H' => Above (H.new (.rows false 8 [x.cells])) H') (Above.refl _) ?_
      refine drawp_pure (wanted_plain rfl) rfl rfl rfl ?_
      (all_goals try dsimp only [putD, DV.cells, DH.new_next, DH.set_next, List.length_cons, List.length_nil, Nat.reduceAdd, List.set_cons_zero, List.set_cons_succ, getD_zero, getD_succ, fieldAt_zero, fieldAt_succ, thenD, blockD, retR, AirV.dv])
      refine drawp_move (wanted_plain rfl) rfl (by kernel_rfl) ?_
      refine op_call rfl rfl rfl ?_
      refine (owns49 _ q c ex l hl1.sl (fun a ha => (hok a ha).mono hab1) hn64 hle).mono ?_
      rintro r H2 ⟨hab2, rfl, hnext, l', hsim, hobj, hall⟩
      refine ⟨hab2, ?_⟩
      (all_goals try dsimp only [putD, DV.cells, DH.new_next, DH.set_next, List.length_cons, List.length_nil, Nat.reduceAdd, List.set_cons_zero, List.set_cons_succ, getD_zero, getD_succ, fieldAt_zero, fieldAt_succ, thenD, blockD, retR, AirV.dv])
      have hbox2 := hab2.obj (l := H.next) (by simp only [DH.new_next]; omega) (obj_here rfl)
      refine drawp_read (wanted_plain rfl) rfl rfl (by kernel_rfl) (v := .agg x.cells) (fun H' h => opD_load rfl rfl (h.obj (l := H.next) (by simp only [DH.new_next]; omega) (obj_here rfl)) rfl rfl) ?_
      (all_goals try dsimp only [putD, DV.cells, DH.new_next, DH.set_next, List.length_cons, List.length_nil, Nat.reduceAdd, List.set_cons_zero, List.set_cons_succ, getD_zero, getD_succ, fieldAt_zero, fieldAt_succ, thenD, blockD, retR, AirV.dv])
      refine drawp_move (wanted_plain rfl) rfl (by kernel_rfl) ?_
      refine op_call rfl rfl rfl ?_
      refine (own50 _ x (hx.mono (hab1.trans hab2)) hxn).mono ?_
      rintro r H3 ⟨hab3, p1, c1, e1, rfl, hok3, hfr3⟩
      refine ⟨hab2.trans hab3, ?_⟩
      (all_goals try dsimp only [putD, DV.cells, DH.new_next, DH.set_next, List.length_cons, List.length_nil, Nat.reduceAdd, List.set_cons_zero, List.set_cons_succ, getD_zero, getD_succ, fieldAt_zero, fieldAt_succ, thenD, blockD, retR, AirV.dv])
      refine drawp_move (wanted_plain rfl) rfl (by kernel_rfl) ?_
      refine op_at rfl ?_
      refine ⟨(hab2.trans hab3).new _, ?_⟩
      (all_goals try dsimp only [putD, DV.cells, DH.new_next, DH.set_next, List.length_cons, List.length_nil, Nat.reduceAdd, List.set_cons_zero, List.set_cons_succ, getD_zero, getD_succ, fieldAt_zero, fieldAt_succ, thenD, blockD, retR, AirV.dv])
      dsimp only [zerosD, List.replicate_succ, List.replicate_zero, List.set_cons_zero]
      have hobj3 := hab3.obj hnext hobj
      have hnx : H2.next ≤ H3.next := hab3.le
      simp only [DH.new_next] at hnext hobj hobj3 hall
      refine drawp_move (wanted_plain rfl) rfl (by kernel_rfl) ?_
      refine op_at (opD_push (a := x.at p1 c1 e1) rfl rfl rfl (obj_skip (by omega) hobj3) (obj_here rfl) (Nat.le_refl _) (by simp [hsim.1, zerosD]) (by omega)) ?_
      refine ⟨((hab2.trans hab3).new _).set (by simp only [DH.new_next]; omega) _, ?_⟩
      (all_goals try dsimp only [putD, DV.cells, DH.new_next, DH.set_next, List.length_cons, List.length_nil, Nat.reduceAdd, List.set_cons_zero, List.set_cons_succ, getD_zero, getD_succ, fieldAt_zero, fieldAt_succ, thenD, blockD, retR, AirV.dv])
      refine drawp_pure (wanted_plain rfl) rfl rfl rfl ?_
      (all_goals try dsimp only [putD, DV.cells, DH.new_next, DH.set_next, List.length_cons, List.length_nil, Nat.reduceAdd, List.set_cons_zero, List.set_cons_succ, getD_zero, getD_succ, fieldAt_zero, fieldAt_succ, thenD, blockD, retR, AirV.dv])
      refine drawp_nil ?_
      have hrows : setRows (l'.map AirV.cells ++ zerosD airZero 1) l.length [(x.at p1 c1 e1).cells] = (part l' (x.at p1 c1 e1) x 0).map AirV.cells := by
        rw [part_zero]
        unfold setRows
        rw [← hsim.1, List.take_left' (by simp), List.drop_eq_nil_of_le (by simp [zerosD])]
        simp
      rw [hrows]
      have hA : Above H ((H3.new (.rows false 8 [(x.at p1 c1 e1).cells])).set (H.next + 1) (some (.rows false 8 ((part l' (x.at p1 c1 e1) x 0).map AirV.cells)))) := (((hab1.trans hab2).trans hab3).new _).set (by omega) _
      have hbox4 : ((H3.new (.rows false 8 [(x.at p1 c1 e1).cells])).set (H.next + 1) (some (.rows false 8 ((part l' (x.at p1 c1 e1) x 0).map AirV.cells)))).obj H.next = some (.rows false 8 [x.cells]) := obj_past (by omega) (obj_skip (by omega) (hab3.obj (by omega) hbox2))
      have hall4 : ∀ a, a ∈ l' ++ [x.at p1 c1 e1] → AirOk ((H3.new (.rows false 8 [(x.at p1 c1 e1).cells])).set (H.next + 1) (some (.rows false 8 ((part l' (x.at p1 c1 e1) x 0).map AirV.cells)))) a ∧ ∀ m i z, a.p = some (m, i, z) → m ≠ H.next + 1 := by
        intro a ha
        rcases List.mem_append.mp ha with ha | ha
        · obtain ⟨h1, h2⟩ := hall a ha
          exact ⟨BOk.set (BOk.mono (hab3.new _) h1) _ h2, h2⟩
        · simp only [List.mem_singleton] at ha
          subst ha
          have h2 : ∀ m i z, p1 = some (m, i, z) → m ≠ H.next + 1 := fun m i z e => by
            have := hfr3 m i z e
            omega
          exact ⟨BOk.set (BOk.mono ((Above.refl H3).new _) hok3) _ h2, h2⟩
      have hnx4 : H.next + 1 < ((H3.new (.rows false 8 [(x.at p1 c1 e1).cells])).set (H.next + 1) (some (.rows false 8 ((part l' (x.at p1 c1 e1) x 0).map AirV.cells)))).next := by simp only [DH.new_next, DH.set_next]; omega
      have hobj4 : ((H3.new (.rows false 8 [(x.at p1 c1 e1).cells])).set (H.next + 1) (some (.rows false 8 ((part l' (x.at p1 c1 e1) x 0).map AirV.cells)))).obj (H.next + 1) = some (.rows false 8 ((part l' (x.at p1 c1 e1) x 0).map AirV.cells)) := obj_set
      have hx' : ∃ p1' c1' e1', x.at p1 c1 e1 = x.at p1' c1' e1' := ⟨_, _, _, rfl⟩
      revert hA hbox4 hall4 hnx4 hobj4 hx'
      generalize ((H3.new (.rows false 8 [(x.at p1 c1 e1).cells])).set (H.next + 1) (some (.rows false 8 ((part l' (x.at p1 c1 e1) x 0).map AirV.cells)))) = H4
      generalize x.at p1 c1 e1 = x'
      intro hA hbox4 hall4 hnx4 hobj4 hx'
      clear hrows hok3 hfr3 hobj3 hobj hall hbox2 hab3 hab2 hnext hnx hchk
      repeat' (first
        | refine dwp_seq ?_
        | refine dwp_region ?_
        | refine ops_nil ?_
        | (refine ops_plain rfl ?_; (first | refine op_pick_t rfl rfl (by first | assumption | with_reducible rfl | decide) rfl ?_ | refine op_pick_f rfl rfl (by first | assumption | with_reducible rfl | decide) rfl ?_ | refine op_at (opD_load rfl rfl (by repeat (first | assumption | (with_reducible refine obj_here ?_; rfl) | with_reducible exact obj_set | (with_reducible refine obj_skip ?_ ?_; · ((try simp only [DH.new_next, DH.set_next]); omega)) | (with_reducible refine obj_past ?_ ?_; · ((try simp only [DH.new_next, DH.set_next]); omega)))) rfl rfl) ?_ | refine op_at (opD_store rfl rfl rfl rfl rfl (by repeat (first | assumption | (with_reducible refine obj_here ?_; rfl) | with_reducible exact obj_set | (with_reducible refine obj_skip ?_ ?_; · ((try simp only [DH.new_next, DH.set_next]); omega)) | (with_reducible refine obj_past ?_ ?_; · ((try simp only [DH.new_next, DH.set_next]); omega)))) rfl) ?_ | refine op_at (opD_eqb rfl rfl rfl rfl) ?_ | refine op_at (opD_neqb rfl rfl rfl rfl) ?_ | refine op_at rfl ?_); (all_goals try dsimp only [putD, DV.cells, DH.new_next, DH.set_next, List.length_cons, List.length_nil, Nat.reduceAdd, List.set_cons_zero, List.set_cons_succ, getD_zero, getD_succ, fieldAt_zero, fieldAt_succ, thenD, blockD, retR, AirV.dv]))
        | (refine ops_on rfl rfl (by first | assumption | with_reducible rfl | decide) ?_; (first | refine op_pick_t rfl rfl (by first | assumption | with_reducible rfl | decide) rfl ?_ | refine op_pick_f rfl rfl (by first | assumption | with_reducible rfl | decide) rfl ?_ | refine op_at (opD_load rfl rfl (by repeat (first | assumption | (with_reducible refine obj_here ?_; rfl) | with_reducible exact obj_set | (with_reducible refine obj_skip ?_ ?_; · ((try simp only [DH.new_next, DH.set_next]); omega)) | (with_reducible refine obj_past ?_ ?_; · ((try simp only [DH.new_next, DH.set_next]); omega)))) rfl rfl) ?_ | refine op_at (opD_store rfl rfl rfl rfl rfl (by repeat (first | assumption | (with_reducible refine obj_here ?_; rfl) | with_reducible exact obj_set | (with_reducible refine obj_skip ?_ ?_; · ((try simp only [DH.new_next, DH.set_next]); omega)) | (with_reducible refine obj_past ?_ ?_; · ((try simp only [DH.new_next, DH.set_next]); omega)))) rfl) ?_ | refine op_at (opD_eqb rfl rfl rfl rfl) ?_ | refine op_at (opD_neqb rfl rfl rfl rfl) ?_ | refine op_at rfl ?_); (all_goals try dsimp only [putD, DV.cells, DH.new_next, DH.set_next, List.length_cons, List.length_nil, Nat.reduceAdd, List.set_cons_zero, List.set_cons_succ, getD_zero, getD_succ, fieldAt_zero, fieldAt_succ, thenD, blockD, retR, AirV.dv]))
        | (refine ops_off1 rfl rfl (by first | assumption | with_reducible rfl | decide) ?_; (all_goals try dsimp only [putD, DV.cells, DH.new_next, DH.set_next, List.length_cons, List.length_nil, Nat.reduceAdd, List.set_cons_zero, List.set_cons_succ, getD_zero, getD_succ, fieldAt_zero, fieldAt_succ, thenD, blockD, retR, AirV.dv]))
        | (refine ops_off0 rfl rfl (by first | assumption | with_reducible rfl | decide) ?_; (all_goals try dsimp only [putD, DV.cells, DH.new_next, DH.set_next, List.length_cons, List.length_nil, Nat.reduceAdd, List.set_cons_zero, List.set_cons_succ, getD_zero, getD_succ, fieldAt_zero, fieldAt_succ, thenD, blockD, retR, AirV.dv]))
        | (refine ops_split1 rfl rfl ?_ ?_ <;> intro hb)
        | (refine ops_split0 rfl rfl ?_ ?_ <;> intro hb)
        | ((first | refine op_pick_t rfl rfl (by first | assumption | with_reducible rfl | decide) rfl ?_ | refine op_pick_f rfl rfl (by first | assumption | with_reducible rfl | decide) rfl ?_ | refine op_at (opD_load rfl rfl (by repeat (first | assumption | (with_reducible refine obj_here ?_; rfl) | with_reducible exact obj_set | (with_reducible refine obj_skip ?_ ?_; · ((try simp only [DH.new_next, DH.set_next]); omega)) | (with_reducible refine obj_past ?_ ?_; · ((try simp only [DH.new_next, DH.set_next]); omega)))) rfl rfl) ?_ | refine op_at (opD_store rfl rfl rfl rfl rfl (by repeat (first | assumption | (with_reducible refine obj_here ?_; rfl) | with_reducible exact obj_set | (with_reducible refine obj_skip ?_ ?_; · ((try simp only [DH.new_next, DH.set_next]); omega)) | (with_reducible refine obj_past ?_ ?_; · ((try simp only [DH.new_next, DH.set_next]); omega)))) rfl) ?_ | refine op_at (opD_eqb rfl rfl rfl rfl) ?_ | refine op_at (opD_neqb rfl rfl rfl rfl) ?_ | refine op_at rfl ?_); (all_goals try dsimp only [putD, DV.cells, DH.new_next, DH.set_next, List.length_cons, List.length_nil, Nat.reduceAdd, List.set_cons_zero, List.set_cons_succ, getD_zero, getD_succ, fieldAt_zero, fieldAt_succ, thenD, blockD, retR, AirV.dv]))
        | refine dwp_cond_t rfl (by first | assumption | with_reducible rfl | decide) ?_
        | refine dwp_cond_f rfl (by first | assumption | with_reducible rfl | decide) ?_
        | (refine dwp_cond rfl ?_ ?_ <;> intro hb)
        | refine dwp_block ?_
        | refine dwp_skip ?_
        | refine dwp_ret ?_
        | refine dwp_exit ?_
        | dsimp only [thenD, blockD, retR, AirV.dv]
        | (refine ⟨_, rfl, ?_⟩; try dsimp only)
        | fail)
      refine dwp_loop (fun st => ∃ (Hk : DH) (k : Nat), ∃ J : Nat → DV, (k ≤ l.length ∧ Above H Hk ∧ Hk.obj H.next = some (.rows false 8 [x.cells]) ∧ Hk.obj (H.next + 1) = some (.rows false 8 ((part l' x' x k).map AirV.cells)) ∧ H.next + 1 < Hk.next ∧ (∀ a, a ∈ l' ++ [x'] → AirOk Hk a ∧ ∀ m i z, a.p = some (m, i, z) → m ≠ H.next + 1)) ∧ st = ⟨(J 0 :: J 1 :: J 2 :: .ptr (some (H.next, 0, 0)) :: J 4 :: J 5 :: .int .i64 l.length :: .sl (some (H.next + 1, 0, 8)) (l.length + 1) (l.length + 1) true :: J 8 :: J 9 :: J 10 :: J 11 :: J 12 :: J 13 :: J 14 :: J 15 :: J 16 :: J 17 :: J 18 :: J 19 :: J 20 :: J 21 :: J 22 :: J 23 :: J 24 :: J 25 :: J 26 :: J 27 :: J 28 :: J 29 :: J 30 :: J 31 :: J 32 :: J 33 :: J 34 :: J 35 :: J 36 :: J 37 :: J 38 :: J 39 :: J 40 :: J 41 :: J 42 :: J 43 :: .int .i64 l.length :: .int .i64 (k : Int) :: J 46 :: J 47 :: J 48 :: J 49 :: J 50 :: J 51 :: J 52 :: J 53 :: J 54 :: J 55 :: J 56 :: J 57 :: J 58 :: J 59 :: J 60 :: J 61 :: J 62 :: J 63 :: []), Hk⟩) (fun st => l.length - kOf st 45) (⟨H4, 0, junk_facts (⟨Nat.zero_le _, hA, hbox4, hobj4, hnx4, hall4⟩) rfl rfl⟩) ?_
      rintro st ⟨Hk, k, J, ⟨hk, hab, hbox, hobj, hnx, hall⟩, rfl⟩
      by_cases hlt : k < l.length
      · obtain ⟨a, ha⟩ : ∃ a, l'[k]? = some a := ⟨l'[k]'(by rw [hsim.1]; exact hlt), List.getElem?_eq_getElem _⟩
        have hpk : (part l' x' x k)[k]? = some a := by rw [part_at _ _ _ _ _ (by rw [hsim.1]; omega), if_neg (by omega), if_pos (by rw [hsim.1]; exact hlt), ha]
        have hrk : ((part l' x' x k).map AirV.cells)[0 + ((k : Int)).toNat]? = some a.cells := by rw [Int.toNat_natCast, Nat.zero_add, List.getElem?_map, hpk]; rfl
        have hrn : ∀ r, (((part l' x' x k).map AirV.cells).set (0 + ((k : Int)).toNat) r)[0 + ((l.length : Int)).toNat]? = some (x'.setBad (x'.bad || (l'.take k).any fun a => a.meet x)).cells := by
          intro r
          rw [Int.toNat_natCast, Int.toNat_natCast, Nat.zero_add, Nat.zero_add, List.getElem?_set_ne (by omega), List.getElem?_map, part_at _ _ _ _ _ (by rw [hsim.1]; omega), hsim.1, if_neg (by omega), if_neg (by omega), if_pos rfl]
          rfl
        have hc : decide ((k : Int) < (l.length : Int)) = true := by simp [hlt]
        have hin : 0 ≤ (k : Int) ∧ (k : Int) < ((l.length + 1 : Nat) : Int) := by omega
        have hin2 : 0 ≤ (l.length : Int) ∧ (l.length : Int) < ((l.length + 1 : Nat) : Int) := by omega
        repeat' (first
          | refine dwp_seq ?_
          | refine dwp_region ?_
          | refine ops_nil ?_
          | (refine drawc_pure (wanted_plain rfl) rfl rfl (opD_index rfl rfl rfl rfl rfl hin) ?_; (all_goals try dsimp only [putD, DV.cells, DH.new_next, DH.set_next, List.length_cons, List.length_nil, Nat.reduceAdd, List.set_cons_zero, List.set_cons_succ, getD_zero, getD_succ, fieldAt_zero, fieldAt_succ, thenD, blockD, retR, AirV.dv]))
          | (refine drawc_read (wanted_plain rfl) rfl rfl (by kernel_rfl) (opD_load rfl rfl hobj hrk rfl) ?_; (all_goals try dsimp only [putD, DV.cells, DH.new_next, DH.set_next, List.length_cons, List.length_nil, Nat.reduceAdd, List.set_cons_zero, List.set_cons_succ, getD_zero, getD_succ, fieldAt_zero, fieldAt_succ, thenD, blockD, retR, AirV.dv]))
          | (refine ops_plain rfl ?_; (first | (refine op_call rfl rfl rfl ?_; refine call_table (g := gMeet) (r := .bool (a.meet x)) rfl rfl ?_) | refine op_pick_t rfl rfl (by first | assumption | with_reducible rfl | decide) rfl ?_ | refine op_pick_f rfl rfl (by first | assumption | with_reducible rfl | decide) rfl ?_ | refine op_at (opD_index rfl rfl rfl rfl rfl hin) ?_ | refine op_at (opD_index rfl rfl rfl rfl rfl hin2) ?_ | refine op_at (opD_store rfl rfl rfl rfl rfl hobj (setRow_at hrk (Nat.le_of_ble_eq_true rfl) rfl)) ?_ | refine op_at (opD_store rfl rfl rfl rfl rfl obj_set (setRow_at (hrn _) (Nat.le_of_ble_eq_true rfl) rfl)) ?_ | refine op_at (opD_load rfl rfl (by repeat (first | assumption | (with_reducible refine obj_here ?_; rfl) | with_reducible exact obj_set | (with_reducible refine obj_skip ?_ ?_; · ((try simp only [DH.new_next, DH.set_next]); omega)) | (with_reducible refine obj_past ?_ ?_; · ((try simp only [DH.new_next, DH.set_next]); omega)))) rfl rfl) ?_ | refine op_at (opD_store rfl rfl rfl rfl rfl (by repeat (first | assumption | (with_reducible refine obj_here ?_; rfl) | with_reducible exact obj_set | (with_reducible refine obj_skip ?_ ?_; · ((try simp only [DH.new_next, DH.set_next]); omega)) | (with_reducible refine obj_past ?_ ?_; · ((try simp only [DH.new_next, DH.set_next]); omega)))) rfl) ?_ | refine op_at (opD_eqb rfl rfl rfl rfl) ?_ | refine op_at (opD_neqb rfl rfl rfl rfl) ?_ | refine op_at rfl ?_); (all_goals try dsimp only [putD, DV.cells, DH.new_next, DH.set_next, List.length_cons, List.length_nil, Nat.reduceAdd, List.set_cons_zero, List.set_cons_succ, getD_zero, getD_succ, fieldAt_zero, fieldAt_succ, thenD, blockD, retR, AirV.dv]))
          | (refine ops_on rfl rfl (by first | assumption | with_reducible rfl | decide) ?_; (first | (refine op_call rfl rfl rfl ?_; refine call_table (g := gMeet) (r := .bool (a.meet x)) rfl rfl ?_) | refine op_pick_t rfl rfl (by first | assumption | with_reducible rfl | decide) rfl ?_ | refine op_pick_f rfl rfl (by first | assumption | with_reducible rfl | decide) rfl ?_ | refine op_at (opD_index rfl rfl rfl rfl rfl hin) ?_ | refine op_at (opD_index rfl rfl rfl rfl rfl hin2) ?_ | refine op_at (opD_store rfl rfl rfl rfl rfl hobj (setRow_at hrk (Nat.le_of_ble_eq_true rfl) rfl)) ?_ | refine op_at (opD_store rfl rfl rfl rfl rfl obj_set (setRow_at (hrn _) (Nat.le_of_ble_eq_true rfl) rfl)) ?_ | refine op_at (opD_load rfl rfl (by repeat (first | assumption | (with_reducible refine obj_here ?_; rfl) | with_reducible exact obj_set | (with_reducible refine obj_skip ?_ ?_; · ((try simp only [DH.new_next, DH.set_next]); omega)) | (with_reducible refine obj_past ?_ ?_; · ((try simp only [DH.new_next, DH.set_next]); omega)))) rfl rfl) ?_ | refine op_at (opD_store rfl rfl rfl rfl rfl (by repeat (first | assumption | (with_reducible refine obj_here ?_; rfl) | with_reducible exact obj_set | (with_reducible refine obj_skip ?_ ?_; · ((try simp only [DH.new_next, DH.set_next]); omega)) | (with_reducible refine obj_past ?_ ?_; · ((try simp only [DH.new_next, DH.set_next]); omega)))) rfl) ?_ | refine op_at (opD_eqb rfl rfl rfl rfl) ?_ | refine op_at (opD_neqb rfl rfl rfl rfl) ?_ | refine op_at rfl ?_); (all_goals try dsimp only [putD, DV.cells, DH.new_next, DH.set_next, List.length_cons, List.length_nil, Nat.reduceAdd, List.set_cons_zero, List.set_cons_succ, getD_zero, getD_succ, fieldAt_zero, fieldAt_succ, thenD, blockD, retR, AirV.dv]))
          | (refine ops_off1 rfl rfl (by first | assumption | with_reducible rfl | decide) ?_; (all_goals try dsimp only [putD, DV.cells, DH.new_next, DH.set_next, List.length_cons, List.length_nil, Nat.reduceAdd, List.set_cons_zero, List.set_cons_succ, getD_zero, getD_succ, fieldAt_zero, fieldAt_succ, thenD, blockD, retR, AirV.dv]))
          | (refine ops_off0 rfl rfl (by first | assumption | with_reducible rfl | decide) ?_; (all_goals try dsimp only [putD, DV.cells, DH.new_next, DH.set_next, List.length_cons, List.length_nil, Nat.reduceAdd, List.set_cons_zero, List.set_cons_succ, getD_zero, getD_succ, fieldAt_zero, fieldAt_succ, thenD, blockD, retR, AirV.dv]))
          | (refine ops_split1 rfl rfl ?_ ?_ <;> intro hb)
          | (refine ops_split0 rfl rfl ?_ ?_ <;> intro hb)
          | ((first | (refine op_call rfl rfl rfl ?_; refine call_table (g := gMeet) (r := .bool (a.meet x)) rfl rfl ?_) | refine op_pick_t rfl rfl (by first | assumption | with_reducible rfl | decide) rfl ?_ | refine op_pick_f rfl rfl (by first | assumption | with_reducible rfl | decide) rfl ?_ | refine op_at (opD_index rfl rfl rfl rfl rfl hin) ?_ | refine op_at (opD_index rfl rfl rfl rfl rfl hin2) ?_ | refine op_at (opD_store rfl rfl rfl rfl rfl hobj (setRow_at hrk (Nat.le_of_ble_eq_true rfl) rfl)) ?_ | refine op_at (opD_store rfl rfl rfl rfl rfl obj_set (setRow_at (hrn _) (Nat.le_of_ble_eq_true rfl) rfl)) ?_ | refine op_at (opD_load rfl rfl (by repeat (first | assumption | (with_reducible refine obj_here ?_; rfl) | with_reducible exact obj_set | (with_reducible refine obj_skip ?_ ?_; · ((try simp only [DH.new_next, DH.set_next]); omega)) | (with_reducible refine obj_past ?_ ?_; · ((try simp only [DH.new_next, DH.set_next]); omega)))) rfl rfl) ?_ | refine op_at (opD_store rfl rfl rfl rfl rfl (by repeat (first | assumption | (with_reducible refine obj_here ?_; rfl) | with_reducible exact obj_set | (with_reducible refine obj_skip ?_ ?_; · ((try simp only [DH.new_next, DH.set_next]); omega)) | (with_reducible refine obj_past ?_ ?_; · ((try simp only [DH.new_next, DH.set_next]); omega)))) rfl) ?_ | refine op_at (opD_eqb rfl rfl rfl rfl) ?_ | refine op_at (opD_neqb rfl rfl rfl rfl) ?_ | refine op_at rfl ?_); (all_goals try dsimp only [putD, DV.cells, DH.new_next, DH.set_next, List.length_cons, List.length_nil, Nat.reduceAdd, List.set_cons_zero, List.set_cons_succ, getD_zero, getD_succ, fieldAt_zero, fieldAt_succ, thenD, blockD, retR, AirV.dv]))
          | refine dwp_drawc _ rfl ?_
          | refine drawc_nil ?_
          | (refine drawc_pick_t (by first | exact wanted_plain rfl | exact wanted_on rfl rfl (by first | assumption | with_reducible rfl | decide)) rfl rfl (by first | assumption | with_reducible rfl | decide) rfl ?_; (all_goals try dsimp only [putD, DV.cells, DH.new_next, DH.set_next, List.length_cons, List.length_nil, Nat.reduceAdd, List.set_cons_zero, List.set_cons_succ, getD_zero, getD_succ, fieldAt_zero, fieldAt_succ, thenD, blockD, retR, AirV.dv]))
          | (refine drawc_pick_f (by first | exact wanted_plain rfl | exact wanted_on rfl rfl (by first | assumption | with_reducible rfl | decide)) rfl rfl (by first | assumption | with_reducible rfl | decide) rfl ?_; (all_goals try dsimp only [putD, DV.cells, DH.new_next, DH.set_next, List.length_cons, List.length_nil, Nat.reduceAdd, List.set_cons_zero, List.set_cons_succ, getD_zero, getD_succ, fieldAt_zero, fieldAt_succ, thenD, blockD, retR, AirV.dv]))
          | (refine drawc_pure (by first | exact wanted_plain rfl | exact wanted_on rfl rfl (by first | assumption | with_reducible rfl | decide)) rfl rfl rfl ?_; (all_goals try dsimp only [putD, DV.cells, DH.new_next, DH.set_next, List.length_cons, List.length_nil, Nat.reduceAdd, List.set_cons_zero, List.set_cons_succ, getD_zero, getD_succ, fieldAt_zero, fieldAt_succ, thenD, blockD, retR, AirV.dv]))
          | (refine drawc_read (by first | exact wanted_plain rfl | exact wanted_on rfl rfl (by first | assumption | with_reducible rfl | decide)) rfl rfl (by kernel_rfl) (opD_load rfl rfl (by repeat (first | assumption | (with_reducible refine obj_here ?_; rfl) | with_reducible exact obj_set | (with_reducible refine obj_skip ?_ ?_; · ((try simp only [DH.new_next, DH.set_next]); omega)) | (with_reducible refine obj_past ?_ ?_; · ((try simp only [DH.new_next, DH.set_next]); omega)))) rfl rfl) ?_; (all_goals try dsimp only [putD, DV.cells, DH.new_next, DH.set_next, List.length_cons, List.length_nil, Nat.reduceAdd, List.set_cons_zero, List.set_cons_succ, getD_zero, getD_succ, fieldAt_zero, fieldAt_succ, thenD, blockD, retR, AirV.dv]))
          | (refine drawc_read (by first | exact wanted_plain rfl | exact wanted_on rfl rfl (by first | assumption | with_reducible rfl | decide)) rfl rfl (by kernel_rfl) rfl ?_; (all_goals try dsimp only [putD, DV.cells, DH.new_next, DH.set_next, List.length_cons, List.length_nil, Nat.reduceAdd, List.set_cons_zero, List.set_cons_succ, getD_zero, getD_succ, fieldAt_zero, fieldAt_succ, thenD, blockD, retR, AirV.dv]))
          | (refine drawc_same (by first | exact wanted_plain rfl | exact wanted_on rfl rfl (by first | assumption | with_reducible rfl | decide)) rfl (by kernel_rfl) ?_; (first | (refine op_call rfl rfl rfl ?_; refine call_table (g := gMeet) (r := .bool (a.meet x)) rfl rfl ?_; refine ⟨rfl, ?_⟩)); (all_goals try dsimp only [putD, DV.cells, DH.new_next, DH.set_next, List.length_cons, List.length_nil, Nat.reduceAdd, List.set_cons_zero, List.set_cons_succ, getD_zero, getD_succ, fieldAt_zero, fieldAt_succ, thenD, blockD, retR, AirV.dv]))
          | (refine drawc_sync (by first | exact wanted_plain rfl | exact wanted_on rfl rfl (by first | assumption | with_reducible rfl | decide)) rfl (by kernel_rfl) ?_; (first | (refine op_call rfl rfl rfl ?_; refine call_table (g := gMeet) (r := .bool (a.meet x)) rfl rfl ?_) | refine op_pick_t rfl rfl (by first | assumption | with_reducible rfl | decide) rfl ?_ | refine op_pick_f rfl rfl (by first | assumption | with_reducible rfl | decide) rfl ?_ | refine op_at (opD_index rfl rfl rfl rfl rfl hin) ?_ | refine op_at (opD_index rfl rfl rfl rfl rfl hin2) ?_ | refine op_at (opD_store rfl rfl rfl rfl rfl hobj (setRow_at hrk (Nat.le_of_ble_eq_true rfl) rfl)) ?_ | refine op_at (opD_store rfl rfl rfl rfl rfl obj_set (setRow_at (hrn _) (Nat.le_of_ble_eq_true rfl) rfl)) ?_ | refine op_at (opD_load rfl rfl (by repeat (first | assumption | (with_reducible refine obj_here ?_; rfl) | with_reducible exact obj_set | (with_reducible refine obj_skip ?_ ?_; · ((try simp only [DH.new_next, DH.set_next]); omega)) | (with_reducible refine obj_past ?_ ?_; · ((try simp only [DH.new_next, DH.set_next]); omega)))) rfl rfl) ?_ | refine op_at (opD_store rfl rfl rfl rfl rfl (by repeat (first | assumption | (with_reducible refine obj_here ?_; rfl) | with_reducible exact obj_set | (with_reducible refine obj_skip ?_ ?_; · ((try simp only [DH.new_next, DH.set_next]); omega)) | (with_reducible refine obj_past ?_ ?_; · ((try simp only [DH.new_next, DH.set_next]); omega)))) rfl) ?_ | refine op_at (opD_eqb rfl rfl rfl rfl) ?_ | refine op_at (opD_neqb rfl rfl rfl rfl) ?_ | refine op_at rfl ?_); (all_goals try dsimp only [putD, DV.cells, DH.new_next, DH.set_next, List.length_cons, List.length_nil, Nat.reduceAdd, List.set_cons_zero, List.set_cons_succ, getD_zero, getD_succ, fieldAt_zero, fieldAt_succ, thenD, blockD, retR, AirV.dv]))
          | (refine drawc_off (by first | exact wanted_off1 rfl rfl (by first | assumption | with_reducible rfl | decide) | exact wanted_off0 rfl rfl (by first | assumption | with_reducible rfl | decide) | exact wanted_none rfl rfl) ?_; (all_goals try dsimp only [putD, DV.cells, DH.new_next, DH.set_next, List.length_cons, List.length_nil, Nat.reduceAdd, List.set_cons_zero, List.set_cons_succ, getD_zero, getD_succ, fieldAt_zero, fieldAt_succ, thenD, blockD, retR, AirV.dv]))
          | refine dwp_cond_t rfl (by first | assumption | with_reducible rfl | decide) ?_
          | refine dwp_cond_f rfl (by first | assumption | with_reducible rfl | decide) ?_
          | (refine dwp_cond rfl ?_ ?_ <;> intro hb)
          | refine dwp_block ?_
          | refine dwp_skip ?_
          | refine dwp_ret ?_
          | refine dwp_exit ?_
          | dsimp only [thenD, blockD, retR, AirV.dv]
          | (refine ⟨_, rfl, ?_⟩; try dsimp only)
          | fail)
        · have hw' := wrapNat (k := k) (by omega)
          rw [hw']
          refine ⟨⟨_, k + 1, junk_facts (⟨by omega, (hab.set (by omega) _).set (by omega) _, obj_past (by omega) (obj_past (by omega) hbox), ?_, ?_, ?_⟩) rfl rfl⟩, ?_⟩
          · rw [obj_set, part_met l' x' x k (by rw [hsim.1]; exact hlt) a ha hb, map_set_cells, map_set_cells, Int.toNat_natCast, Int.toNat_natCast, Nat.zero_add, Nat.zero_add, hsim.1]
            rfl
          · exact hnx
          · intro b hb'
            obtain ⟨h1, h2⟩ := hall b hb'
            exact ⟨BOk.set (BOk.set h1 _ h2) _ h2, h2⟩
          · show l.length - ((k + 1 : Nat) : Int).toNat < l.length - (k : Int).toNat
            omega
        · have hw' := wrapNat (k := k) (by omega)
          rw [hw']
          refine ⟨⟨_, k + 1, junk_facts (⟨by omega, hab, hbox, by rw [part_step l' x' x k (by rw [hsim.1]; exact hlt) a ha hb]; exact hobj, hnx, hall⟩) rfl rfl⟩, ?_⟩
          show l.length - ((k + 1 : Nat) : Int).toNat < l.length - (k : Int).toNat
          omega
      · have hc : decide ((k : Int) < (l.length : Int)) = false := by simp; omega
        have hkl : k = l.length := by omega
        repeat' (first
          | refine dwp_seq ?_
          | refine dwp_region ?_
          | refine ops_nil ?_
          | (refine ops_plain rfl ?_; (first | refine op_pick_t rfl rfl (by first | assumption | with_reducible rfl | decide) rfl ?_ | refine op_pick_f rfl rfl (by first | assumption | with_reducible rfl | decide) rfl ?_ | refine op_at (opD_load rfl rfl (by repeat (first | assumption | (with_reducible refine obj_here ?_; rfl) | with_reducible exact obj_set | (with_reducible refine obj_skip ?_ ?_; · ((try simp only [DH.new_next, DH.set_next]); omega)) | (with_reducible refine obj_past ?_ ?_; · ((try simp only [DH.new_next, DH.set_next]); omega)))) rfl rfl) ?_ | refine op_at (opD_store rfl rfl rfl rfl rfl (by repeat (first | assumption | (with_reducible refine obj_here ?_; rfl) | with_reducible exact obj_set | (with_reducible refine obj_skip ?_ ?_; · ((try simp only [DH.new_next, DH.set_next]); omega)) | (with_reducible refine obj_past ?_ ?_; · ((try simp only [DH.new_next, DH.set_next]); omega)))) rfl) ?_ | refine op_at (opD_eqb rfl rfl rfl rfl) ?_ | refine op_at (opD_neqb rfl rfl rfl rfl) ?_ | refine op_at rfl ?_); (all_goals try dsimp only [putD, DV.cells, DH.new_next, DH.set_next, List.length_cons, List.length_nil, Nat.reduceAdd, List.set_cons_zero, List.set_cons_succ, getD_zero, getD_succ, fieldAt_zero, fieldAt_succ, thenD, blockD, retR, AirV.dv]))
          | (refine ops_on rfl rfl (by first | assumption | with_reducible rfl | decide) ?_; (first | refine op_pick_t rfl rfl (by first | assumption | with_reducible rfl | decide) rfl ?_ | refine op_pick_f rfl rfl (by first | assumption | with_reducible rfl | decide) rfl ?_ | refine op_at (opD_load rfl rfl (by repeat (first | assumption | (with_reducible refine obj_here ?_; rfl) | with_reducible exact obj_set | (with_reducible refine obj_skip ?_ ?_; · ((try simp only [DH.new_next, DH.set_next]); omega)) | (with_reducible refine obj_past ?_ ?_; · ((try simp only [DH.new_next, DH.set_next]); omega)))) rfl rfl) ?_ | refine op_at (opD_store rfl rfl rfl rfl rfl (by repeat (first | assumption | (with_reducible refine obj_here ?_; rfl) | with_reducible exact obj_set | (with_reducible refine obj_skip ?_ ?_; · ((try simp only [DH.new_next, DH.set_next]); omega)) | (with_reducible refine obj_past ?_ ?_; · ((try simp only [DH.new_next, DH.set_next]); omega)))) rfl) ?_ | refine op_at (opD_eqb rfl rfl rfl rfl) ?_ | refine op_at (opD_neqb rfl rfl rfl rfl) ?_ | refine op_at rfl ?_); (all_goals try dsimp only [putD, DV.cells, DH.new_next, DH.set_next, List.length_cons, List.length_nil, Nat.reduceAdd, List.set_cons_zero, List.set_cons_succ, getD_zero, getD_succ, fieldAt_zero, fieldAt_succ, thenD, blockD, retR, AirV.dv]))
          | (refine ops_off1 rfl rfl (by first | assumption | with_reducible rfl | decide) ?_; (all_goals try dsimp only [putD, DV.cells, DH.new_next, DH.set_next, List.length_cons, List.length_nil, Nat.reduceAdd, List.set_cons_zero, List.set_cons_succ, getD_zero, getD_succ, fieldAt_zero, fieldAt_succ, thenD, blockD, retR, AirV.dv]))
          | (refine ops_off0 rfl rfl (by first | assumption | with_reducible rfl | decide) ?_; (all_goals try dsimp only [putD, DV.cells, DH.new_next, DH.set_next, List.length_cons, List.length_nil, Nat.reduceAdd, List.set_cons_zero, List.set_cons_succ, getD_zero, getD_succ, fieldAt_zero, fieldAt_succ, thenD, blockD, retR, AirV.dv]))
          | (refine ops_split1 rfl rfl ?_ ?_ <;> intro hb)
          | (refine ops_split0 rfl rfl ?_ ?_ <;> intro hb)
          | ((first | refine op_pick_t rfl rfl (by first | assumption | with_reducible rfl | decide) rfl ?_ | refine op_pick_f rfl rfl (by first | assumption | with_reducible rfl | decide) rfl ?_ | refine op_at (opD_load rfl rfl (by repeat (first | assumption | (with_reducible refine obj_here ?_; rfl) | with_reducible exact obj_set | (with_reducible refine obj_skip ?_ ?_; · ((try simp only [DH.new_next, DH.set_next]); omega)) | (with_reducible refine obj_past ?_ ?_; · ((try simp only [DH.new_next, DH.set_next]); omega)))) rfl rfl) ?_ | refine op_at (opD_store rfl rfl rfl rfl rfl (by repeat (first | assumption | (with_reducible refine obj_here ?_; rfl) | with_reducible exact obj_set | (with_reducible refine obj_skip ?_ ?_; · ((try simp only [DH.new_next, DH.set_next]); omega)) | (with_reducible refine obj_past ?_ ?_; · ((try simp only [DH.new_next, DH.set_next]); omega)))) rfl) ?_ | refine op_at (opD_eqb rfl rfl rfl rfl) ?_ | refine op_at (opD_neqb rfl rfl rfl rfl) ?_ | refine op_at rfl ?_); (all_goals try dsimp only [putD, DV.cells, DH.new_next, DH.set_next, List.length_cons, List.length_nil, Nat.reduceAdd, List.set_cons_zero, List.set_cons_succ, getD_zero, getD_succ, fieldAt_zero, fieldAt_succ, thenD, blockD, retR, AirV.dv]))
          | refine dwp_cond_t rfl (by first | assumption | with_reducible rfl | decide) ?_
          | refine dwp_cond_f rfl (by first | assumption | with_reducible rfl | decide) ?_
          | (refine dwp_cond rfl ?_ ?_ <;> intro hb)
          | refine dwp_block ?_
          | refine dwp_skip ?_
          | refine dwp_ret ?_
          | refine dwp_exit ?_
          | dsimp only [thenD, blockD, retR, AirV.dv]
          | (refine ⟨_, rfl, ?_⟩; try dsimp only)
          | fail)
        refine ⟨hab, .inr ⟨hE, hck, H.next + 1, l', x', rfl, by omega, hsim, hx', ?_, hnx, fun a ha => ?_⟩⟩
        · rw [← hkl]; exact hobj
        · obtain ⟨b, h1, v, rfl⟩ := part_mem _ _ _ _ _ ha
          exact (hall b h1).1

end Go.Det.M11
