/- Things of one's own: the copies. -/
import Derived.Test.YtphnddoneocfhaaM9
import Derived.Test.YtphnddoneocfhaaD28
namespace Go.Det.M11
open Go Go.Det Go.Proofs
set_option maxRecDepth 4000
set_option maxHeartbeats 4000000
set_option linter.unusedVariables false
set_option linter.unusedSimpArgs false

/-- The same things, but for where their bytes lie. -/
def Sim (l l' : List AirV) : Prop := l'.length = l.length ∧ ∀ (k : Nat) (a : AirV), l[k]? = some a → ∃ p c ex, l'[k]? = some (a.at p c ex)

theorem owns49 (H : DH) (q : Option (Nat × Nat × Nat)) (c : Nat) (ex : Bool) (l : List AirV) (hl : Sl H 8 (l.map AirV.cells) q) (hok : ∀ a ∈ l, AirOk H a) (hn : ∀ a ∈ l, a.n ≤ 64) (hlen : l.length ≤ 256) :
    CallWp Try.prog X3 49 [.sl q l.length c ex] H (fun r H' => Above H H' ∧ r = .sl (some (H.next, 0, 8)) l.length (l.length + 1) true ∧ H.next < H'.next ∧ ∃ l', Sim l l' ∧ H'.obj H.next = some (.rows false 8 (l'.map AirV.cells ++ zerosD airZero 1)) ∧ ∀ a ∈ l', AirOk H' a ∧ ∀ m i z, a.p = some (m, i, z) → m ≠ H.next) := by
  have hwr := wrapNat (k := l.length) (by omega)
  refine enter rfl Try.func49 rfl Try.ntmps49 rfl ?_
  dsimp only [List.cons_append, List.nil_append, List.length_cons, List.length_nil, List.replicate_succ, List.replicate_zero, Nat.reduceAdd, Nat.reduceSub]
  repeat' (first
    | refine dwp_seq ?_
    | refine dwp_region ?_
    | refine ops_nil ?_
    | (refine ops_plain rfl ?_; (first | refine op_pick_t rfl rfl (by first | assumption | with_reducible rfl | decide) rfl ?_ | refine op_pick_f rfl rfl (by first | assumption | with_reducible rfl | decide) rfl ?_ | refine op_at (opD_make rfl rfl (by have e := congrArg (fun z => some (DV.int IntKind.i64 z)) hwr; exact e) (by omega)) ?_ | refine op_at (opD_load rfl rfl (by repeat (first | assumption | (with_reducible refine obj_here ?_; rfl) | with_reducible exact obj_set | (with_reducible refine obj_skip ?_ ?_; · ((try simp only [DH.new_next, DH.set_next]); omega)) | (with_reducible refine obj_past ?_ ?_; · ((try simp only [DH.new_next, DH.set_next]); omega)))) rfl rfl) ?_ | refine op_at (opD_store rfl rfl rfl rfl rfl (by repeat (first | assumption | (with_reducible refine obj_here ?_; rfl) | with_reducible exact obj_set | (with_reducible refine obj_skip ?_ ?_; · ((try simp only [DH.new_next, DH.set_next]); omega)) | (with_reducible refine obj_past ?_ ?_; · ((try simp only [DH.new_next, DH.set_next]); omega)))) rfl) ?_ | refine op_at (opD_eqb rfl rfl rfl rfl) ?_ | refine op_at (opD_neqb rfl rfl rfl rfl) ?_ | refine op_at rfl ?_); (all_goals try dsimp only [putD, DV.cells, DH.new_next, DH.set_next, List.length_cons, List.length_nil, Nat.reduceAdd, List.set_cons_zero, List.set_cons_succ, getD_zero, getD_succ, fieldAt_zero, fieldAt_succ, thenD, blockD, retR]))
    | (refine ops_on rfl rfl (by first | assumption | with_reducible rfl | decide) ?_; (first | refine op_pick_t rfl rfl (by first | assumption | with_reducible rfl | decide) rfl ?_ | refine op_pick_f rfl rfl (by first | assumption | with_reducible rfl | decide) rfl ?_ | refine op_at (opD_make rfl rfl (by have e := congrArg (fun z => some (DV.int IntKind.i64 z)) hwr; exact e) (by omega)) ?_ | refine op_at (opD_load rfl rfl (by repeat (first | assumption | (with_reducible refine obj_here ?_; rfl) | with_reducible exact obj_set | (with_reducible refine obj_skip ?_ ?_; · ((try simp only [DH.new_next, DH.set_next]); omega)) | (with_reducible refine obj_past ?_ ?_; · ((try simp only [DH.new_next, DH.set_next]); omega)))) rfl rfl) ?_ | refine op_at (opD_store rfl rfl rfl rfl rfl (by repeat (first | assumption | (with_reducible refine obj_here ?_; rfl) | with_reducible exact obj_set | (with_reducible refine obj_skip ?_ ?_; · ((try simp only [DH.new_next, DH.set_next]); omega)) | (with_reducible refine obj_past ?_ ?_; · ((try simp only [DH.new_next, DH.set_next]); omega)))) rfl) ?_ | refine op_at (opD_eqb rfl rfl rfl rfl) ?_ | refine op_at (opD_neqb rfl rfl rfl rfl) ?_ | refine op_at rfl ?_); (all_goals try dsimp only [putD, DV.cells, DH.new_next, DH.set_next, List.length_cons, List.length_nil, Nat.reduceAdd, List.set_cons_zero, List.set_cons_succ, getD_zero, getD_succ, fieldAt_zero, fieldAt_succ, thenD, blockD, retR]))
    | (refine ops_off1 rfl rfl (by first | assumption | with_reducible rfl | decide) ?_; (all_goals try dsimp only [putD, DV.cells, DH.new_next, DH.set_next, List.length_cons, List.length_nil, Nat.reduceAdd, List.set_cons_zero, List.set_cons_succ, getD_zero, getD_succ, fieldAt_zero, fieldAt_succ, thenD, blockD, retR]))
    | (refine ops_off0 rfl rfl (by first | assumption | with_reducible rfl | decide) ?_; (all_goals try dsimp only [putD, DV.cells, DH.new_next, DH.set_next, List.length_cons, List.length_nil, Nat.reduceAdd, List.set_cons_zero, List.set_cons_succ, getD_zero, getD_succ, fieldAt_zero, fieldAt_succ, thenD, blockD, retR]))
    | (refine ops_split1 rfl rfl ?_ ?_ <;> intro hb)
    | (refine ops_split0 rfl rfl ?_ ?_ <;> intro hb)
    | ((first | refine op_pick_t rfl rfl (by first | assumption | with_reducible rfl | decide) rfl ?_ | refine op_pick_f rfl rfl (by first | assumption | with_reducible rfl | decide) rfl ?_ | refine op_at (opD_make rfl rfl (by have e := congrArg (fun z => some (DV.int IntKind.i64 z)) hwr; exact e) (by omega)) ?_ | refine op_at (opD_load rfl rfl (by repeat (first | assumption | (with_reducible refine obj_here ?_; rfl) | with_reducible exact obj_set | (with_reducible refine obj_skip ?_ ?_; · ((try simp only [DH.new_next, DH.set_next]); omega)) | (with_reducible refine obj_past ?_ ?_; · ((try simp only [DH.new_next, DH.set_next]); omega)))) rfl rfl) ?_ | refine op_at (opD_store rfl rfl rfl rfl rfl (by repeat (first | assumption | (with_reducible refine obj_here ?_; rfl) | with_reducible exact obj_set | (with_reducible refine obj_skip ?_ ?_; · ((try simp only [DH.new_next, DH.set_next]); omega)) | (with_reducible refine obj_past ?_ ?_; · ((try simp only [DH.new_next, DH.set_next]); omega)))) rfl) ?_ | refine op_at (opD_eqb rfl rfl rfl rfl) ?_ | refine op_at (opD_neqb rfl rfl rfl rfl) ?_ | refine op_at rfl ?_); (all_goals try dsimp only [putD, DV.cells, DH.new_next, DH.set_next, List.length_cons, List.length_nil, Nat.reduceAdd, List.set_cons_zero, List.set_cons_succ, getD_zero, getD_succ, fieldAt_zero, fieldAt_succ, thenD, blockD, retR]))
    | refine dwp_cond_t rfl (by first | assumption | with_reducible rfl | decide) ?_
    | refine dwp_cond_f rfl (by first | assumption | with_reducible rfl | decide) ?_
    | (refine dwp_cond rfl ?_ ?_ <;> intro hb)
    | refine dwp_block ?_
    | refine dwp_skip ?_
    | refine dwp_ret ?_
    | refine dwp_exit ?_
    | dsimp only [thenD, blockD, retR]
    | (refine ⟨_, rfl, ?_⟩; try dsimp only)
    | fail)
  refine dwp_loop (fun st => ∃ (Hk : DH) (k : Nat) (lk : List AirV) (x5 x13 x14 x15 x16 x17 x18 x19 x20 x21 x22 : DV), Above H Hk ∧ k ≤ l.length ∧ lk.length = k ∧ (∀ (j : Nat) (a : AirV), j < k → l[j]? = some a → ∃ p c ex, lk[j]? = some (a.at p c ex)) ∧ H.next < Hk.next ∧ Hk.obj H.next = some (.rows false 8 (lk.map AirV.cells ++ zerosD airZero (l.length + 1 - k))) ∧ (∀ a ∈ lk, AirOk Hk a ∧ ∀ m i z, a.p = some (m, i, z) → m ≠ H.next) ∧ st = ⟨[.sl q l.length c ex, undefD, .sl none 0 0 true, .sl (some (H.next, 0, 8)) k (l.length + 1) true, undefD, x5, .sl q l.length c ex, .int .i64 l.length, .int .i64 (IntKind.i64.wrap ((l.length : Int) + 1)), .sl (some (H.next, 0, 8)) 0 (l.length + 1) true, .sl q l.length c ex, .int .i64 l.length, .int .i64 k, x13, x14, x15, x16, x17, x18, x19, x20, x21, x22], Hk⟩) (fun st => l.length - kOf st 12) ?_ ?_
  · exact ⟨H.new (.rows false 8 (zerosD airZero (l.length + 1))), 0, [], undefD, undefD, undefD, undefD, undefD, undefD, undefD, undefD, undefD, undefD, undefD, (Above.refl H).new _, Nat.zero_le _, rfl, fun j a h => absurd h (Nat.not_lt_zero _), Nat.lt_succ_self _, obj_here rfl, fun a h => (by cases h), rfl⟩
  · rintro st ⟨Hk, k, lk, x5, x13, x14, x15, x16, x17, x18, x19, x20, x21, x22, hab, hk, hlk, hsim, hnext, hobj, hall, rfl⟩
    by_cases hlt : k < l.length
    · obtain ⟨a, ha⟩ : ∃ a, l[k]? = some a := ⟨l[k], List.getElem?_eq_getElem hlt⟩
      have haok := hok a (List.mem_of_getElem? ha)
      have han := hn a (List.mem_of_getElem? ha)
      obtain ⟨loc, i, ro, rs, rfl, hloc, ho, hrow⟩ := hl.rd (k := k) (r := a.cells) (by rw [List.getElem?_map, ha]; rfl)
      have hok' := hab.obj hloc ho
      have hrk : rs[i + ((k : Int)).toNat]? = some a.cells := by rw [Int.toNat_natCast]; exact hrow
      have hc : decide ((k : Int) < (l.length : Int)) = true := by simp [hlt]
      have hin : 0 ≤ (k : Int) ∧ (k : Int) < (l.length : Int) := by omega
      have hroom : k + 1 ≤ (lk.map AirV.cells ++ zerosD airZero (l.length + 1 - k)).length := by rw [List.length_append, List.length_map, zerosD, List.length_replicate]; omega
      repeat' (first
        | refine dwp_seq ?_
        | refine dwp_region ?_
        | refine ops_nil ?_
        | (refine ops_plain rfl ?_; (first | (refine op_call rfl rfl rfl ?_; refine (own50 _ a (AirOk.mono ((hab.new _).set hab.le _) haok) han).mono ?_; rintro r H2 ⟨hab2, p, c', ex', rfl, hok2, hfr⟩; have ho2 := hab2.obj (l := H.next) (by (try simp only [DH.new_next, DH.set_next]); omega) (obj_past (by omega) (obj_skip (by omega) hobj))) | refine op_pick_t rfl rfl (by first | assumption | with_reducible rfl | decide) rfl ?_ | refine op_pick_f rfl rfl (by first | assumption | with_reducible rfl | decide) rfl ?_ | refine op_at (opD_index rfl rfl rfl rfl rfl hin) ?_ | refine op_at (opD_load rfl rfl hok' hrk (air_part a)) ?_ | refine op_at (opD_push (a := a.at p c' ex') rfl rfl rfl (obj_skip (by have := hab2.le; simp only [DH.new_next, DH.set_next] at this; omega) ho2) (obj_here rfl) (by omega) hroom (by omega)) ?_ | refine op_at (opD_load rfl rfl (by repeat (first | assumption | (with_reducible refine obj_here ?_; rfl) | with_reducible exact obj_set | (with_reducible refine obj_skip ?_ ?_; · ((try simp only [DH.new_next, DH.set_next]); omega)) | (with_reducible refine obj_past ?_ ?_; · ((try simp only [DH.new_next, DH.set_next]); omega)))) rfl rfl) ?_ | refine op_at (opD_store rfl rfl rfl rfl rfl (by repeat (first | assumption | (with_reducible refine obj_here ?_; rfl) | with_reducible exact obj_set | (with_reducible refine obj_skip ?_ ?_; · ((try simp only [DH.new_next, DH.set_next]); omega)) | (with_reducible refine obj_past ?_ ?_; · ((try simp only [DH.new_next, DH.set_next]); omega)))) rfl) ?_ | refine op_at (opD_eqb rfl rfl rfl rfl) ?_ | refine op_at (opD_neqb rfl rfl rfl rfl) ?_ | refine op_at rfl ?_); (all_goals try dsimp only [putD, DV.cells, DH.new_next, DH.set_next, List.length_cons, List.length_nil, Nat.reduceAdd, List.set_cons_zero, List.set_cons_succ, getD_zero, getD_succ, fieldAt_zero, fieldAt_succ, thenD, blockD, retR]))
        | (refine ops_on rfl rfl (by first | assumption | with_reducible rfl | decide) ?_; (first | (refine op_call rfl rfl rfl ?_; refine (own50 _ a (AirOk.mono ((hab.new _).set hab.le _) haok) han).mono ?_; rintro r H2 ⟨hab2, p, c', ex', rfl, hok2, hfr⟩; have ho2 := hab2.obj (l := H.next) (by (try simp only [DH.new_next, DH.set_next]); omega) (obj_past (by omega) (obj_skip (by omega) hobj))) | refine op_pick_t rfl rfl (by first | assumption | with_reducible rfl | decide) rfl ?_ | refine op_pick_f rfl rfl (by first | assumption | with_reducible rfl | decide) rfl ?_ | refine op_at (opD_index rfl rfl rfl rfl rfl hin) ?_ | refine op_at (opD_load rfl rfl hok' hrk (air_part a)) ?_ | refine op_at (opD_push (a := a.at p c' ex') rfl rfl rfl (obj_skip (by have := hab2.le; simp only [DH.new_next, DH.set_next] at this; omega) ho2) (obj_here rfl) (by omega) hroom (by omega)) ?_ | refine op_at (opD_load rfl rfl (by repeat (first | assumption | (with_reducible refine obj_here ?_; rfl) | with_reducible exact obj_set | (with_reducible refine obj_skip ?_ ?_; · ((try simp only [DH.new_next, DH.set_next]); omega)) | (with_reducible refine obj_past ?_ ?_; · ((try simp only [DH.new_next, DH.set_next]); omega)))) rfl rfl) ?_ | refine op_at (opD_store rfl rfl rfl rfl rfl (by repeat (first | assumption | (with_reducible refine obj_here ?_; rfl) | with_reducible exact obj_set | (with_reducible refine obj_skip ?_ ?_; · ((try simp only [DH.new_next, DH.set_next]); omega)) | (with_reducible refine obj_past ?_ ?_; · ((try simp only [DH.new_next, DH.set_next]); omega)))) rfl) ?_ | refine op_at (opD_eqb rfl rfl rfl rfl) ?_ | refine op_at (opD_neqb rfl rfl rfl rfl) ?_ | refine op_at rfl ?_); (all_goals try dsimp only [putD, DV.cells, DH.new_next, DH.set_next, List.length_cons, List.length_nil, Nat.reduceAdd, List.set_cons_zero, List.set_cons_succ, getD_zero, getD_succ, fieldAt_zero, fieldAt_succ, thenD, blockD, retR]))
        | (refine ops_off1 rfl rfl (by first | assumption | with_reducible rfl | decide) ?_; (all_goals try dsimp only [putD, DV.cells, DH.new_next, DH.set_next, List.length_cons, List.length_nil, Nat.reduceAdd, List.set_cons_zero, List.set_cons_succ, getD_zero, getD_succ, fieldAt_zero, fieldAt_succ, thenD, blockD, retR]))
        | (refine ops_off0 rfl rfl (by first | assumption | with_reducible rfl | decide) ?_; (all_goals try dsimp only [putD, DV.cells, DH.new_next, DH.set_next, List.length_cons, List.length_nil, Nat.reduceAdd, List.set_cons_zero, List.set_cons_succ, getD_zero, getD_succ, fieldAt_zero, fieldAt_succ, thenD, blockD, retR]))
        | (refine ops_split1 rfl rfl ?_ ?_ <;> intro hb)
        | (refine ops_split0 rfl rfl ?_ ?_ <;> intro hb)
        | ((first | (refine op_call rfl rfl rfl ?_; refine (own50 _ a (AirOk.mono ((hab.new _).set hab.le _) haok) han).mono ?_; rintro r H2 ⟨hab2, p, c', ex', rfl, hok2, hfr⟩; have ho2 := hab2.obj (l := H.next) (by (try simp only [DH.new_next, DH.set_next]); omega) (obj_past (by omega) (obj_skip (by omega) hobj))) | refine op_pick_t rfl rfl (by first | assumption | with_reducible rfl | decide) rfl ?_ | refine op_pick_f rfl rfl (by first | assumption | with_reducible rfl | decide) rfl ?_ | refine op_at (opD_index rfl rfl rfl rfl rfl hin) ?_ | refine op_at (opD_load rfl rfl hok' hrk (air_part a)) ?_ | refine op_at (opD_push (a := a.at p c' ex') rfl rfl rfl (obj_skip (by have := hab2.le; simp only [DH.new_next, DH.set_next] at this; omega) ho2) (obj_here rfl) (by omega) hroom (by omega)) ?_ | refine op_at (opD_load rfl rfl (by repeat (first | assumption | (with_reducible refine obj_here ?_; rfl) | with_reducible exact obj_set | (with_reducible refine obj_skip ?_ ?_; · ((try simp only [DH.new_next, DH.set_next]); omega)) | (with_reducible refine obj_past ?_ ?_; · ((try simp only [DH.new_next, DH.set_next]); omega)))) rfl rfl) ?_ | refine op_at (opD_store rfl rfl rfl rfl rfl (by repeat (first | assumption | (with_reducible refine obj_here ?_; rfl) | with_reducible exact obj_set | (with_reducible refine obj_skip ?_ ?_; · ((try simp only [DH.new_next, DH.set_next]); omega)) | (with_reducible refine obj_past ?_ ?_; · ((try simp only [DH.new_next, DH.set_next]); omega)))) rfl) ?_ | refine op_at (opD_eqb rfl rfl rfl rfl) ?_ | refine op_at (opD_neqb rfl rfl rfl rfl) ?_ | refine op_at rfl ?_); (all_goals try dsimp only [putD, DV.cells, DH.new_next, DH.set_next, List.length_cons, List.length_nil, Nat.reduceAdd, List.set_cons_zero, List.set_cons_succ, getD_zero, getD_succ, fieldAt_zero, fieldAt_succ, thenD, blockD, retR]))
        | refine dwp_cond_t rfl (by first | assumption | with_reducible rfl | decide) ?_
        | refine dwp_cond_f rfl (by first | assumption | with_reducible rfl | decide) ?_
        | (refine dwp_cond rfl ?_ ?_ <;> intro hb)
        | refine dwp_block ?_
        | refine dwp_skip ?_
        | refine dwp_ret ?_
        | refine dwp_exit ?_
        | dsimp only [thenD, blockD, retR]
        | (refine ⟨_, rfl, ?_⟩; try dsimp only)
        | fail)
      have hw' := wrapNat (k := k) (by omega)
      rw [hw']
      have hA1 := (hab.new (.rows false 8 [airZero])).set hab.le (some (.rows false 8 [a.cells]))
      have hn2 : Hk.next + 1 ≤ H2.next := hab2.le
      have hset : setRows (lk.map AirV.cells ++ zerosD airZero (l.length + 1 - k)) k [(a.at p c' ex').cells] = (lk ++ [a.at p c' ex']).map AirV.cells ++ zerosD airZero (l.length + 1 - (k + 1)) := by
        unfold setRows
        have e1 : (lk.map AirV.cells).length = k := by simp [hlk]
        have e2 : l.length + 1 - k = (l.length + 1 - (k + 1)) + 1 := by omega
        rw [List.take_left' e1, List.drop_append, List.drop_eq_nil_of_le (by simp; omega), e1, e2]
        simp [zerosD, List.replicate_succ]
      rw [hset]
      refine ⟨⟨_, k + 1, lk ++ [a.at p c' ex'], _, _, _, _, _, _, _, _, _, _, _, (((hA1.trans hab2).new _).set (Nat.le_refl _) _), by omega, by simp [hlk], fun j b hj hjb => ?_, by simp only [DH.new_next, DH.set_next]; omega, obj_set, fun b hb => ?_, rfl⟩, ?_⟩
      · rcases Nat.lt_succ_iff_lt_or_eq.mp hj with h | rfl
        · obtain ⟨p1, c1, e1, h1⟩ := hsim j b h hjb
          exact ⟨p1, c1, e1, by rw [List.getElem?_append_left (by omega)]; exact h1⟩
        · rw [ha] at hjb; cases hjb
          exact ⟨p, c', ex', by rw [List.getElem?_append_right (by omega), hlk]; simp⟩
      · rcases List.mem_append.mp hb with hb | hb
        · obtain ⟨h1, h2⟩ := hall b hb
          refine ⟨BOk.set (BOk.mono (((((Above.refl Hk).new (.rows false 8 [airZero])).set (Nat.le_refl _) (some (.rows false 8 [a.cells]))).trans hab2).new _) h1) _ h2, h2⟩
        · simp only [List.mem_singleton] at hb
          subst hb
          have h2 : ∀ m i z, p = some (m, i, z) → m ≠ H.next := fun m i z e => by
            have := hfr m i z e
            simp only [DH.new_next, DH.set_next] at this
            omega
          exact ⟨BOk.set (BOk.mono ((Above.refl H2).new _) hok2) _ h2, h2⟩
      · show l.length - ((k + 1 : Nat) : Int).toNat < l.length - (k : Int).toNat
        omega
    · have hc : decide ((k : Int) < (l.length : Int)) = false := by simp; omega
      have hkl : k = l.length := by omega
      have e1 : l.length + 1 - k = 1 := by omega
      rw [e1] at hobj
      repeat' (first
        | refine dwp_seq ?_
        | refine dwp_region ?_
        | refine ops_nil ?_
        | (refine ops_plain rfl ?_; (first | refine op_pick_t rfl rfl (by first | assumption | with_reducible rfl | decide) rfl ?_ | refine op_pick_f rfl rfl (by first | assumption | with_reducible rfl | decide) rfl ?_ | refine op_at (opD_load rfl rfl (by repeat (first | assumption | (with_reducible refine obj_here ?_; rfl) | with_reducible exact obj_set | (with_reducible refine obj_skip ?_ ?_; · ((try simp only [DH.new_next, DH.set_next]); omega)) | (with_reducible refine obj_past ?_ ?_; · ((try simp only [DH.new_next, DH.set_next]); omega)))) rfl rfl) ?_ | refine op_at (opD_store rfl rfl rfl rfl rfl (by repeat (first | assumption | (with_reducible refine obj_here ?_; rfl) | with_reducible exact obj_set | (with_reducible refine obj_skip ?_ ?_; · ((try simp only [DH.new_next, DH.set_next]); omega)) | (with_reducible refine obj_past ?_ ?_; · ((try simp only [DH.new_next, DH.set_next]); omega)))) rfl) ?_ | refine op_at (opD_eqb rfl rfl rfl rfl) ?_ | refine op_at (opD_neqb rfl rfl rfl rfl) ?_ | refine op_at rfl ?_); (all_goals try dsimp only [putD, DV.cells, DH.new_next, DH.set_next, List.length_cons, List.length_nil, Nat.reduceAdd, List.set_cons_zero, List.set_cons_succ, getD_zero, getD_succ, fieldAt_zero, fieldAt_succ, thenD, blockD, retR]))
        | (refine ops_on rfl rfl (by first | assumption | with_reducible rfl | decide) ?_; (first | refine op_pick_t rfl rfl (by first | assumption | with_reducible rfl | decide) rfl ?_ | refine op_pick_f rfl rfl (by first | assumption | with_reducible rfl | decide) rfl ?_ | refine op_at (opD_load rfl rfl (by repeat (first | assumption | (with_reducible refine obj_here ?_; rfl) | with_reducible exact obj_set | (with_reducible refine obj_skip ?_ ?_; · ((try simp only [DH.new_next, DH.set_next]); omega)) | (with_reducible refine obj_past ?_ ?_; · ((try simp only [DH.new_next, DH.set_next]); omega)))) rfl rfl) ?_ | refine op_at (opD_store rfl rfl rfl rfl rfl (by repeat (first | assumption | (with_reducible refine obj_here ?_; rfl) | with_reducible exact obj_set | (with_reducible refine obj_skip ?_ ?_; · ((try simp only [DH.new_next, DH.set_next]); omega)) | (with_reducible refine obj_past ?_ ?_; · ((try simp only [DH.new_next, DH.set_next]); omega)))) rfl) ?_ | refine op_at (opD_eqb rfl rfl rfl rfl) ?_ | refine op_at (opD_neqb rfl rfl rfl rfl) ?_ | refine op_at rfl ?_); (all_goals try dsimp only [putD, DV.cells, DH.new_next, DH.set_next, List.length_cons, List.length_nil, Nat.reduceAdd, List.set_cons_zero, List.set_cons_succ, getD_zero, getD_succ, fieldAt_zero, fieldAt_succ, thenD, blockD, retR]))
        | (refine ops_off1 rfl rfl (by first | assumption | with_reducible rfl | decide) ?_; (all_goals try dsimp only [putD, DV.cells, DH.new_next, DH.set_next, List.length_cons, List.length_nil, Nat.reduceAdd, List.set_cons_zero, List.set_cons_succ, getD_zero, getD_succ, fieldAt_zero, fieldAt_succ, thenD, blockD, retR]))
        | (refine ops_off0 rfl rfl (by first | assumption | with_reducible rfl | decide) ?_; (all_goals try dsimp only [putD, DV.cells, DH.new_next, DH.set_next, List.length_cons, List.length_nil, Nat.reduceAdd, List.set_cons_zero, List.set_cons_succ, getD_zero, getD_succ, fieldAt_zero, fieldAt_succ, thenD, blockD, retR]))
        | (refine ops_split1 rfl rfl ?_ ?_ <;> intro hb)
        | (refine ops_split0 rfl rfl ?_ ?_ <;> intro hb)
        | ((first | refine op_pick_t rfl rfl (by first | assumption | with_reducible rfl | decide) rfl ?_ | refine op_pick_f rfl rfl (by first | assumption | with_reducible rfl | decide) rfl ?_ | refine op_at (opD_load rfl rfl (by repeat (first | assumption | (with_reducible refine obj_here ?_; rfl) | with_reducible exact obj_set | (with_reducible refine obj_skip ?_ ?_; · ((try simp only [DH.new_next, DH.set_next]); omega)) | (with_reducible refine obj_past ?_ ?_; · ((try simp only [DH.new_next, DH.set_next]); omega)))) rfl rfl) ?_ | refine op_at (opD_store rfl rfl rfl rfl rfl (by repeat (first | assumption | (with_reducible refine obj_here ?_; rfl) | with_reducible exact obj_set | (with_reducible refine obj_skip ?_ ?_; · ((try simp only [DH.new_next, DH.set_next]); omega)) | (with_reducible refine obj_past ?_ ?_; · ((try simp only [DH.new_next, DH.set_next]); omega)))) rfl) ?_ | refine op_at (opD_eqb rfl rfl rfl rfl) ?_ | refine op_at (opD_neqb rfl rfl rfl rfl) ?_ | refine op_at rfl ?_); (all_goals try dsimp only [putD, DV.cells, DH.new_next, DH.set_next, List.length_cons, List.length_nil, Nat.reduceAdd, List.set_cons_zero, List.set_cons_succ, getD_zero, getD_succ, fieldAt_zero, fieldAt_succ, thenD, blockD, retR]))
        | refine dwp_cond_t rfl (by first | assumption | with_reducible rfl | decide) ?_
        | refine dwp_cond_f rfl (by first | assumption | with_reducible rfl | decide) ?_
        | (refine dwp_cond rfl ?_ ?_ <;> intro hb)
        | refine dwp_block ?_
        | refine dwp_skip ?_
        | refine dwp_ret ?_
        | refine dwp_exit ?_
        | dsimp only [thenD, blockD, retR]
        | (refine ⟨_, rfl, ?_⟩; try dsimp only)
        | fail)
      refine ⟨hab, ?_, hnext, lk, ⟨by omega, fun j a h => hsim j a (by have := (List.getElem?_eq_some_iff.mp h).1; omega) h⟩, hobj, hall⟩
      rw [hkl]
      rfl

end Go.Det.M11
