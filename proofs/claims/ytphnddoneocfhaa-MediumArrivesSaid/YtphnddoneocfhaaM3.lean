/- Lists of things on a channel; where the first of a kind stands. -/
import Derived.Test.YtphnddoneocfhaaM2
namespace Go.Det.M11
open Go Go.Det Go.Proofs
set_option maxRecDepth 4000
set_option maxHeartbeats 4000000
set_option linter.unusedVariables false
set_option linter.unusedSimpArgs false

/-- A thing, its bytes told by where they lie. -/
structure AirV where
  id : Int
  fr : Int
  ch : Int
  at_ : Int
  en : Int
  p : Option (Nat × Nat × Nat)
  n : Nat
  c : Nat
  ex : Bool
  bad : Bool
  le : Int

def AirV.cells (a : AirV) : List DV := [.int .u64 a.id, .int .i64 a.fr, .int .i64 a.ch, .int .i64 a.at_, .int .i64 a.en, .sl a.p a.n a.c a.ex, .bool a.bad, .int .i64 a.le]
def AirV.dv (a : AirV) : DV := .agg a.cells
theorem air_part (a : AirV) : partD Try.prog 28 a.cells 0 = some a.dv := rfl

/-- The rows of things that lie from a row on. -/
def Lies (H : DH) (loc i : Nat) (l : List AirV) : Prop := ∃ ro rs, H.obj loc = some (.rows ro 8 rs) ∧ ∀ (k : Nat) (a : AirV), l[k]? = some a → rs[i + k]? = some a.cells

def kOf (st : DSt) (s : Nat) : Nat := ((intOf (st.env.getD s undefD)).getD 0).toNat

theorem wrapNat {k : Nat} (h : k < 9223372036854775807) : IntKind.i64.wrap ((k : Int) + 1) = ((k + 1 : Nat) : Int) := by
  unfold IntKind.wrap
  simp [IntKind.signed, IntKind.bits]
  omega

theorem find_at {pf : AirV → Bool} {l : List AirV} {k : Nat} {a : AirV} (ha : l[k]? = some a) (hb : pf a = true) (hbefore : ∀ (j : Nat) (b : AirV), j < k → l[j]? = some b → pf b = false) : l.findIdx? pf = some k := by
  obtain ⟨hk, rfl⟩ := List.getElem?_eq_some_iff.mp ha
  rw [List.findIdx?_eq_some_iff_getElem]
  exact ⟨hk, hb, fun j hj => by rw [hbefore j _ hj (List.getElem?_eq_getElem (by omega))]; simp⟩

theorem find_none {pf : AirV → Bool} {l : List AirV} (h : ∀ (j : Nat) (b : AirV), l[j]? = some b → pf b = false) : l.findIdx? pf = none := by
  rw [List.findIdx?_eq_none_iff]
  intro a ha
  obtain ⟨j, hj, rfl⟩ := List.getElem_of_mem ha
  exact h j _ (List.getElem?_eq_getElem hj)

theorem index64 {X : Ext} (hx : X 64 = none) {F : FuncId} {cap : List DV} {pf : AirV → Bool} (hF : ∀ (a : AirV) (H : DH) (K : DV → DH → Prop), K (.bool (pf a)) H → CallWp Try.prog X F (a.dv :: cap) H K)
    (H : DH) (loc i c : Nat) (ex : Bool) (l : List AirV) (hl : Lies H loc i l) (hlen : l.length ≤ maxLen) :
    CallWp Try.prog X 64 [.sl (some (loc, i, 8)) l.length c ex, .func (.func F) [] cap] H (fun r H' => r = .int .i64 (match l.findIdx? pf with | some k => (k : Int) | none => -1) ∧ H' = H) := by
  obtain ⟨ro, rs, ho, hrow⟩ := hl
  refine enter hx Try.func64 rfl Try.ntmps64 rfl ?_
  dsimp only [List.cons_append, List.nil_append, List.length_cons, List.length_nil, List.replicate_succ, List.replicate_zero, Nat.reduceAdd, Nat.reduceSub]
  repeat' (first
    | refine dwp_seq ?_
    | refine dwp_region ?_
    | refine ops_nil ?_
    | (refine ops_plain rfl ?_; (first | refine op_pick_t rfl rfl (by first | assumption | with_reducible rfl | decide) rfl ?_ | refine op_pick_f rfl rfl (by first | assumption | with_reducible rfl | decide) rfl ?_ | refine op_at (opD_load rfl rfl (by repeat (first | exact obj_here rfl | exact obj_set | assumption | refine obj_skip (by (try simp only [DH.new_next, DH.set_next]); omega) ?_ | refine obj_past (by (try simp only [DH.new_next, DH.set_next]); omega) ?_)) rfl rfl) ?_ | refine op_at (opD_store rfl rfl rfl rfl rfl (by repeat (first | exact obj_here rfl | exact obj_set | assumption | refine obj_skip (by (try simp only [DH.new_next, DH.set_next]); omega) ?_ | refine obj_past (by (try simp only [DH.new_next, DH.set_next]); omega) ?_)) rfl) ?_ | refine op_at (opD_eqb rfl rfl rfl rfl) ?_ | refine op_at (opD_neqb rfl rfl rfl rfl) ?_ | refine op_at rfl ?_); dsimp only [putD, DV.cells, DH.new_next, DH.set_next, List.length_cons, List.length_nil, Nat.reduceAdd, List.set_cons_zero, List.set_cons_succ, getD_zero, getD_succ, fieldAt_zero, fieldAt_succ, thenD, blockD, retR])
    | (refine ops_on rfl rfl (by first | assumption | with_reducible rfl | decide) ?_; (first | refine op_pick_t rfl rfl (by first | assumption | with_reducible rfl | decide) rfl ?_ | refine op_pick_f rfl rfl (by first | assumption | with_reducible rfl | decide) rfl ?_ | refine op_at (opD_load rfl rfl (by repeat (first | exact obj_here rfl | exact obj_set | assumption | refine obj_skip (by (try simp only [DH.new_next, DH.set_next]); omega) ?_ | refine obj_past (by (try simp only [DH.new_next, DH.set_next]); omega) ?_)) rfl rfl) ?_ | refine op_at (opD_store rfl rfl rfl rfl rfl (by repeat (first | exact obj_here rfl | exact obj_set | assumption | refine obj_skip (by (try simp only [DH.new_next, DH.set_next]); omega) ?_ | refine obj_past (by (try simp only [DH.new_next, DH.set_next]); omega) ?_)) rfl) ?_ | refine op_at (opD_eqb rfl rfl rfl rfl) ?_ | refine op_at (opD_neqb rfl rfl rfl rfl) ?_ | refine op_at rfl ?_); dsimp only [putD, DV.cells, DH.new_next, DH.set_next, List.length_cons, List.length_nil, Nat.reduceAdd, List.set_cons_zero, List.set_cons_succ, getD_zero, getD_succ, fieldAt_zero, fieldAt_succ, thenD, blockD, retR])
    | (refine ops_off1 rfl rfl (by first | assumption | with_reducible rfl | decide) ?_; dsimp only [putD, DV.cells, DH.new_next, DH.set_next, List.length_cons, List.length_nil, Nat.reduceAdd, List.set_cons_zero, List.set_cons_succ, getD_zero, getD_succ, fieldAt_zero, fieldAt_succ, thenD, blockD, retR])
    | (refine ops_off0 rfl rfl (by first | assumption | with_reducible rfl | decide) ?_; dsimp only [putD, DV.cells, DH.new_next, DH.set_next, List.length_cons, List.length_nil, Nat.reduceAdd, List.set_cons_zero, List.set_cons_succ, getD_zero, getD_succ, fieldAt_zero, fieldAt_succ, thenD, blockD, retR])
    | (refine ops_split1 rfl rfl ?_ ?_ <;> intro hb)
    | (refine ops_split0 rfl rfl ?_ ?_ <;> intro hb)
    | ((first | refine op_pick_t rfl rfl (by first | assumption | with_reducible rfl | decide) rfl ?_ | refine op_pick_f rfl rfl (by first | assumption | with_reducible rfl | decide) rfl ?_ | refine op_at (opD_load rfl rfl (by repeat (first | exact obj_here rfl | exact obj_set | assumption | refine obj_skip (by (try simp only [DH.new_next, DH.set_next]); omega) ?_ | refine obj_past (by (try simp only [DH.new_next, DH.set_next]); omega) ?_)) rfl rfl) ?_ | refine op_at (opD_store rfl rfl rfl rfl rfl (by repeat (first | exact obj_here rfl | exact obj_set | assumption | refine obj_skip (by (try simp only [DH.new_next, DH.set_next]); omega) ?_ | refine obj_past (by (try simp only [DH.new_next, DH.set_next]); omega) ?_)) rfl) ?_ | refine op_at (opD_eqb rfl rfl rfl rfl) ?_ | refine op_at (opD_neqb rfl rfl rfl rfl) ?_ | refine op_at rfl ?_); dsimp only [putD, DV.cells, DH.new_next, DH.set_next, List.length_cons, List.length_nil, Nat.reduceAdd, List.set_cons_zero, List.set_cons_succ, getD_zero, getD_succ, fieldAt_zero, fieldAt_succ, thenD, blockD, retR])
    | refine dwp_cond_t rfl (by first | assumption | with_reducible rfl | decide) ?_
    | refine dwp_cond_f rfl (by first | assumption | with_reducible rfl | decide) ?_
    | (refine dwp_cond rfl ?_ ?_ <;> intro hb)
    | refine dwp_block ?_
    | refine dwp_skip ?_
    | refine dwp_ret ?_
    | refine dwp_exit ?_
    | dsimp only [thenD, blockD, retR]
    | (refine ⟨_, rfl, ?_⟩; try dsimp only)
    | fail)
  refine dwp_loop (fun st => ∃ (k : Nat) (x5 x9 x10 x11 x12 x13 x14 x15 x16 x17 x18 : DV), k ≤ l.length ∧ (∀ j a, j < k → l[j]? = some a → pf a = false) ∧ st = ⟨[.sl (some (loc, i, 8)) l.length c ex, .func (.func F) [] cap, undefD, undefD, .int .i64 0, x5, .sl (some (loc, i, 8)) l.length c ex, .int .i64 l.length, .int .i64 k, x9, x10, x11, x12, x13, x14, x15, x16, x17, x18], H⟩) (fun st => l.length - kOf st 8) ⟨0, undefD, undefD, undefD, undefD, undefD, undefD, undefD, undefD, undefD, undefD, undefD, Nat.zero_le _, fun j a h => absurd h (Nat.not_lt_zero _), rfl⟩ ?_
  rintro st ⟨k, x5, x9, x10, x11, x12, x13, x14, x15, x16, x17, x18, hk, hbefore, rfl⟩
  by_cases hlt : k < l.length
  · obtain ⟨a, ha⟩ : ∃ a, l[k]? = some a := ⟨l[k], List.getElem?_eq_getElem hlt⟩
    have hrk : rs[i + ((k : Int)).toNat]? = some a.cells := by rw [Int.toNat_natCast]; exact hrow k a ha
    have hc : decide ((k : Int) < (l.length : Int)) = true := by simp [hlt]
    have hin : 0 ≤ (k : Int) ∧ (k : Int) < (l.length : Int) := by omega
    repeat' (first
      | refine dwp_seq ?_
      | refine dwp_region ?_
      | refine ops_nil ?_
      | (refine ops_plain rfl ?_; (first | (refine op_call rfl rfl rfl ?_; refine hF _ _ _ ?_) | refine op_pick_t rfl rfl (by first | assumption | with_reducible rfl | decide) rfl ?_ | refine op_pick_f rfl rfl (by first | assumption | with_reducible rfl | decide) rfl ?_ | refine op_at (opD_index rfl rfl rfl rfl rfl hin) ?_ | refine op_at (opD_load rfl rfl ho hrk (air_part a)) ?_ | refine op_at (opD_load rfl rfl (by repeat (first | exact obj_here rfl | exact obj_set | assumption | refine obj_skip (by (try simp only [DH.new_next, DH.set_next]); omega) ?_ | refine obj_past (by (try simp only [DH.new_next, DH.set_next]); omega) ?_)) rfl rfl) ?_ | refine op_at (opD_store rfl rfl rfl rfl rfl (by repeat (first | exact obj_here rfl | exact obj_set | assumption | refine obj_skip (by (try simp only [DH.new_next, DH.set_next]); omega) ?_ | refine obj_past (by (try simp only [DH.new_next, DH.set_next]); omega) ?_)) rfl) ?_ | refine op_at (opD_eqb rfl rfl rfl rfl) ?_ | refine op_at (opD_neqb rfl rfl rfl rfl) ?_ | refine op_at rfl ?_); dsimp only [putD, DV.cells, DH.new_next, DH.set_next, List.length_cons, List.length_nil, Nat.reduceAdd, List.set_cons_zero, List.set_cons_succ, getD_zero, getD_succ, fieldAt_zero, fieldAt_succ, thenD, blockD, retR])
      | (refine ops_on rfl rfl (by first | assumption | with_reducible rfl | decide) ?_; (first | (refine op_call rfl rfl rfl ?_; refine hF _ _ _ ?_) | refine op_pick_t rfl rfl (by first | assumption | with_reducible rfl | decide) rfl ?_ | refine op_pick_f rfl rfl (by first | assumption | with_reducible rfl | decide) rfl ?_ | refine op_at (opD_index rfl rfl rfl rfl rfl hin) ?_ | refine op_at (opD_load rfl rfl ho hrk (air_part a)) ?_ | refine op_at (opD_load rfl rfl (by repeat (first | exact obj_here rfl | exact obj_set | assumption | refine obj_skip (by (try simp only [DH.new_next, DH.set_next]); omega) ?_ | refine obj_past (by (try simp only [DH.new_next, DH.set_next]); omega) ?_)) rfl rfl) ?_ | refine op_at (opD_store rfl rfl rfl rfl rfl (by repeat (first | exact obj_here rfl | exact obj_set | assumption | refine obj_skip (by (try simp only [DH.new_next, DH.set_next]); omega) ?_ | refine obj_past (by (try simp only [DH.new_next, DH.set_next]); omega) ?_)) rfl) ?_ | refine op_at (opD_eqb rfl rfl rfl rfl) ?_ | refine op_at (opD_neqb rfl rfl rfl rfl) ?_ | refine op_at rfl ?_); dsimp only [putD, DV.cells, DH.new_next, DH.set_next, List.length_cons, List.length_nil, Nat.reduceAdd, List.set_cons_zero, List.set_cons_succ, getD_zero, getD_succ, fieldAt_zero, fieldAt_succ, thenD, blockD, retR])
      | (refine ops_off1 rfl rfl (by first | assumption | with_reducible rfl | decide) ?_; dsimp only [putD, DV.cells, DH.new_next, DH.set_next, List.length_cons, List.length_nil, Nat.reduceAdd, List.set_cons_zero, List.set_cons_succ, getD_zero, getD_succ, fieldAt_zero, fieldAt_succ, thenD, blockD, retR])
      | (refine ops_off0 rfl rfl (by first | assumption | with_reducible rfl | decide) ?_; dsimp only [putD, DV.cells, DH.new_next, DH.set_next, List.length_cons, List.length_nil, Nat.reduceAdd, List.set_cons_zero, List.set_cons_succ, getD_zero, getD_succ, fieldAt_zero, fieldAt_succ, thenD, blockD, retR])
      | (refine ops_split1 rfl rfl ?_ ?_ <;> intro hb)
      | (refine ops_split0 rfl rfl ?_ ?_ <;> intro hb)
      | ((first | (refine op_call rfl rfl rfl ?_; refine hF _ _ _ ?_) | refine op_pick_t rfl rfl (by first | assumption | with_reducible rfl | decide) rfl ?_ | refine op_pick_f rfl rfl (by first | assumption | with_reducible rfl | decide) rfl ?_ | refine op_at (opD_index rfl rfl rfl rfl rfl hin) ?_ | refine op_at (opD_load rfl rfl ho hrk (air_part a)) ?_ | refine op_at (opD_load rfl rfl (by repeat (first | exact obj_here rfl | exact obj_set | assumption | refine obj_skip (by (try simp only [DH.new_next, DH.set_next]); omega) ?_ | refine obj_past (by (try simp only [DH.new_next, DH.set_next]); omega) ?_)) rfl rfl) ?_ | refine op_at (opD_store rfl rfl rfl rfl rfl (by repeat (first | exact obj_here rfl | exact obj_set | assumption | refine obj_skip (by (try simp only [DH.new_next, DH.set_next]); omega) ?_ | refine obj_past (by (try simp only [DH.new_next, DH.set_next]); omega) ?_)) rfl) ?_ | refine op_at (opD_eqb rfl rfl rfl rfl) ?_ | refine op_at (opD_neqb rfl rfl rfl rfl) ?_ | refine op_at rfl ?_); dsimp only [putD, DV.cells, DH.new_next, DH.set_next, List.length_cons, List.length_nil, Nat.reduceAdd, List.set_cons_zero, List.set_cons_succ, getD_zero, getD_succ, fieldAt_zero, fieldAt_succ, thenD, blockD, retR])
      | refine dwp_cond_t rfl (by first | assumption | with_reducible rfl | decide) ?_
      | refine dwp_cond_f rfl (by first | assumption | with_reducible rfl | decide) ?_
      | (refine dwp_cond rfl ?_ ?_ <;> intro hb)
      | refine dwp_block ?_
      | refine dwp_skip ?_
      | refine dwp_ret ?_
      | refine dwp_exit ?_
      | dsimp only [thenD, blockD, retR]
      | (refine ⟨_, rfl, ?_⟩; try dsimp only)
      | fail)
    · refine ⟨?_, rfl⟩
      rw [find_at ha hb hbefore]
      rfl
    · have hw := wrapNat (k := k) (by unfold maxLen at hlen; omega)
      rw [hw]
      refine ⟨⟨k + 1, _, _, _, _, _, _, _, _, _, _, _, by omega, fun j b hj hjb => ?_, rfl⟩, ?_⟩
      · rcases Nat.lt_succ_iff_lt_or_eq.mp hj with h | rfl
        · exact hbefore j b h hjb
        · rw [ha] at hjb; cases hjb; exact hb
      · show l.length - ((k + 1 : Nat) : Int).toNat < l.length - (k : Int).toNat
        omega
  · have hc : decide ((k : Int) < (l.length : Int)) = false := by simp; omega
    repeat' (first
      | refine dwp_seq ?_
      | refine dwp_region ?_
      | refine ops_nil ?_
      | (refine ops_plain rfl ?_; (first | refine op_pick_t rfl rfl (by first | assumption | with_reducible rfl | decide) rfl ?_ | refine op_pick_f rfl rfl (by first | assumption | with_reducible rfl | decide) rfl ?_ | refine op_at (opD_load rfl rfl (by repeat (first | exact obj_here rfl | exact obj_set | assumption | refine obj_skip (by (try simp only [DH.new_next, DH.set_next]); omega) ?_ | refine obj_past (by (try simp only [DH.new_next, DH.set_next]); omega) ?_)) rfl rfl) ?_ | refine op_at (opD_store rfl rfl rfl rfl rfl (by repeat (first | exact obj_here rfl | exact obj_set | assumption | refine obj_skip (by (try simp only [DH.new_next, DH.set_next]); omega) ?_ | refine obj_past (by (try simp only [DH.new_next, DH.set_next]); omega) ?_)) rfl) ?_ | refine op_at (opD_eqb rfl rfl rfl rfl) ?_ | refine op_at (opD_neqb rfl rfl rfl rfl) ?_ | refine op_at rfl ?_); dsimp only [putD, DV.cells, DH.new_next, DH.set_next, List.length_cons, List.length_nil, Nat.reduceAdd, List.set_cons_zero, List.set_cons_succ, getD_zero, getD_succ, fieldAt_zero, fieldAt_succ, thenD, blockD, retR])
      | (refine ops_on rfl rfl (by first | assumption | with_reducible rfl | decide) ?_; (first | refine op_pick_t rfl rfl (by first | assumption | with_reducible rfl | decide) rfl ?_ | refine op_pick_f rfl rfl (by first | assumption | with_reducible rfl | decide) rfl ?_ | refine op_at (opD_load rfl rfl (by repeat (first | exact obj_here rfl | exact obj_set | assumption | refine obj_skip (by (try simp only [DH.new_next, DH.set_next]); omega) ?_ | refine obj_past (by (try simp only [DH.new_next, DH.set_next]); omega) ?_)) rfl rfl) ?_ | refine op_at (opD_store rfl rfl rfl rfl rfl (by repeat (first | exact obj_here rfl | exact obj_set | assumption | refine obj_skip (by (try simp only [DH.new_next, DH.set_next]); omega) ?_ | refine obj_past (by (try simp only [DH.new_next, DH.set_next]); omega) ?_)) rfl) ?_ | refine op_at (opD_eqb rfl rfl rfl rfl) ?_ | refine op_at (opD_neqb rfl rfl rfl rfl) ?_ | refine op_at rfl ?_); dsimp only [putD, DV.cells, DH.new_next, DH.set_next, List.length_cons, List.length_nil, Nat.reduceAdd, List.set_cons_zero, List.set_cons_succ, getD_zero, getD_succ, fieldAt_zero, fieldAt_succ, thenD, blockD, retR])
      | (refine ops_off1 rfl rfl (by first | assumption | with_reducible rfl | decide) ?_; dsimp only [putD, DV.cells, DH.new_next, DH.set_next, List.length_cons, List.length_nil, Nat.reduceAdd, List.set_cons_zero, List.set_cons_succ, getD_zero, getD_succ, fieldAt_zero, fieldAt_succ, thenD, blockD, retR])
      | (refine ops_off0 rfl rfl (by first | assumption | with_reducible rfl | decide) ?_; dsimp only [putD, DV.cells, DH.new_next, DH.set_next, List.length_cons, List.length_nil, Nat.reduceAdd, List.set_cons_zero, List.set_cons_succ, getD_zero, getD_succ, fieldAt_zero, fieldAt_succ, thenD, blockD, retR])
      | (refine ops_split1 rfl rfl ?_ ?_ <;> intro hb)
      | (refine ops_split0 rfl rfl ?_ ?_ <;> intro hb)
      | ((first | refine op_pick_t rfl rfl (by first | assumption | with_reducible rfl | decide) rfl ?_ | refine op_pick_f rfl rfl (by first | assumption | with_reducible rfl | decide) rfl ?_ | refine op_at (opD_load rfl rfl (by repeat (first | exact obj_here rfl | exact obj_set | assumption | refine obj_skip (by (try simp only [DH.new_next, DH.set_next]); omega) ?_ | refine obj_past (by (try simp only [DH.new_next, DH.set_next]); omega) ?_)) rfl rfl) ?_ | refine op_at (opD_store rfl rfl rfl rfl rfl (by repeat (first | exact obj_here rfl | exact obj_set | assumption | refine obj_skip (by (try simp only [DH.new_next, DH.set_next]); omega) ?_ | refine obj_past (by (try simp only [DH.new_next, DH.set_next]); omega) ?_)) rfl) ?_ | refine op_at (opD_eqb rfl rfl rfl rfl) ?_ | refine op_at (opD_neqb rfl rfl rfl rfl) ?_ | refine op_at rfl ?_); dsimp only [putD, DV.cells, DH.new_next, DH.set_next, List.length_cons, List.length_nil, Nat.reduceAdd, List.set_cons_zero, List.set_cons_succ, getD_zero, getD_succ, fieldAt_zero, fieldAt_succ, thenD, blockD, retR])
      | refine dwp_cond_t rfl (by first | assumption | with_reducible rfl | decide) ?_
      | refine dwp_cond_f rfl (by first | assumption | with_reducible rfl | decide) ?_
      | (refine dwp_cond rfl ?_ ?_ <;> intro hb)
      | refine dwp_block ?_
      | refine dwp_skip ?_
      | refine dwp_ret ?_
      | refine dwp_exit ?_
      | dsimp only [thenD, blockD, retR]
      | (refine ⟨_, rfl, ?_⟩; try dsimp only)
      | fail)
    refine ⟨?_, rfl⟩
    rw [find_none fun j b hjb => hbefore j b (by have := (List.getElem?_eq_some_iff.mp hjb).1; omega) hjb]
    rfl

end Go.Det.M11
