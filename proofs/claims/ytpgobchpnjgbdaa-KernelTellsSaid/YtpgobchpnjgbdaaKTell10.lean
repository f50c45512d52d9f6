/- Kernels: Tidy; the program's Same. -/
import Derived.Test.YtpgobchpnjgbdaaKTell9
namespace Go.Det.Q
open Go Go.Det Go.Proofs
set_option maxRecDepth 4000
set_option maxHeartbeats 16000000
set_option linter.unusedVariables false
set_option linter.unusedSimpArgs false
theorem psame68 (H : DH) (p p' : Option (Nat × Nat × Nat)) (c c' : Nat) (ex ex' : Bool) (l m : List Item) (hl : It H p c ex l) (hm : It H p' c' ex' m) :
    CallWp Try.prog K5 68 [.sl p l.length c ex, .sl p' m.length c' ex'] H (fun r H' => r = .bool (decide (l = m)) ∧ H' = H) := by
  have hlen : l.length ≤ 9223372036854775807 := hl.len
  by_cases hne : ((l.length : Int) != (m.length : Int)) = true
  · skip
    refine enter rfl Try.func68 rfl Try.ntmps68 rfl ?_
    dsimp only [List.cons_append, List.nil_append, List.length_cons, List.length_nil, List.replicate_succ, List.replicate_zero, Nat.reduceAdd, Nat.reduceSub]
    repeat' (first
      | dsimp only [putD, DV.cells, DH.new_next, DH.set_next, List.length_cons, List.length_nil, Nat.reduceAdd, List.set_cons_zero, List.set_cons_succ, getD_zero, getD_succ, fieldAt_zero, fieldAt_succ, thenD, blockD, retR]
      | apply dwp_seq
      | apply dwp_region
      | apply ops_nil
      | (apply ops_plain; (· exact rfl))
      | (apply op_at; (· exact rfl))
      | (apply dwp_cond_t; (· exact rfl); (· (first | with_reducible assumption | with_reducible rfl | decide)))
      | apply dwp_ret
      | (refine ⟨_, rfl, ?_⟩)
      | fail)
    refine ⟨?_, rfl⟩
    have : ¬ l = m := fun e => by subst e; simp at hne
    simp [this]
  · have hne' : ((l.length : Int) != (m.length : Int)) = false := by simpa using hne
    have hlm : l.length = m.length := by simp at hne'; omega
    refine enter rfl Try.func68 rfl Try.ntmps68 rfl ?_
    dsimp only [List.cons_append, List.nil_append, List.length_cons, List.length_nil, List.replicate_succ, List.replicate_zero, Nat.reduceAdd, Nat.reduceSub]
    repeat' (first
      | dsimp only [putD, DV.cells, DH.new_next, DH.set_next, List.length_cons, List.length_nil, Nat.reduceAdd, List.set_cons_zero, List.set_cons_succ, getD_zero, getD_succ, fieldAt_zero, fieldAt_succ, thenD, blockD, retR]
      | apply dwp_seq
      | apply dwp_region
      | apply ops_nil
      | (apply ops_plain; (· exact rfl))
      | (apply op_at; (· exact rfl))
      | (apply dwp_cond_f; (· exact rfl); (· (first | with_reducible assumption | with_reducible rfl | decide)))
      | apply dwp_block
      | apply dwp_skip
      | fail)
    refine dwp_loop (fun st => ∃ (k : Nat), ∃ J : Nat → DV, (k ≤ l.length ∧ ∀ i, i < k → l[i]? = m[i]?) ∧ st = ⟨[.sl p l.length c ex, .sl p' m.length c' ex', J 2, J 3, J 4, J 5, J 6, J 7, J 8, J 9, J 10, J 11, .int .i64 l.length, .int .i64 (k : Int), J 14, J 15, J 16, J 17, J 18, J 19, J 20, J 21, J 22, J 23, J 24, J 25], H⟩) (fun st => l.length - kOf st 13) (⟨0, junk_facts (⟨Nat.zero_le _, fun i h2 => absurd h2 (by omega)⟩) rfl rfl⟩) ?_
    rintro st ⟨k, J, ⟨hk, hbef⟩, rfl⟩
    by_cases hlt : k < l.length
    · obtain ⟨x, hx⟩ : ∃ x, l[k]? = some x := ⟨l[k], List.getElem?_eq_getElem hlt⟩
      obtain ⟨y, hy⟩ : ∃ y, m[k]? = some y := ⟨m[k]'(by omega), List.getElem?_eq_getElem _⟩
      obtain ⟨loc, i0, ro, rs, rfl, hloc, ho, hrx⟩ := hl.rd hx
      obtain ⟨loc', i0', ro', rs', rfl, hloc', ho', hry⟩ := hm.rd hy
      have hr1 : rs[i0 + ((k : Int)).toNat]? = some x.cells := by rw [Int.toNat_natCast]; exact hrx
      have hr2 : rs'[i0' + ((k : Int)).toNat]? = some y.cells := by rw [Int.toNat_natCast]; exact hry
      have hc : decide ((k : Int) < (l.length : Int)) = true := by simp [hlt]
      have hin1 : 0 ≤ (k : Int) ∧ (k : Int) < (l.length : Int) := by omega
      have hin2 : 0 ≤ (k : Int) ∧ (k : Int) < (m.length : Int) := by omega
      have hw := wrapNat (k := k) (by omega)
      repeat' (first
        | dsimp only [putD, DV.cells, DH.new_next, DH.set_next, List.length_cons, List.length_nil, Nat.reduceAdd, List.set_cons_zero, List.set_cons_succ, getD_zero, getD_succ, fieldAt_zero, fieldAt_succ, thenD, blockD, retR]
        | (apply drawc_pure; (· (first | exact wanted_plain rfl | (apply wanted_on; (· exact rfl); (· exact rfl); (· (first | with_reducible assumption | with_reducible rfl | decide))))); (· exact rfl); (· exact rfl); (· exact opD_index rfl rfl rfl rfl rfl hin1))
        | (apply drawc_pure; (· (first | exact wanted_plain rfl | (apply wanted_on; (· exact rfl); (· exact rfl); (· (first | with_reducible assumption | with_reducible rfl | decide))))); (· exact rfl); (· exact rfl); (· exact opD_index rfl rfl rfl rfl rfl hin2))
        | (apply drawc_read_at; (· exact rfl); (· (first | exact wanted_plain rfl | (apply wanted_on; (· exact rfl); (· exact rfl); (· (first | with_reducible assumption | with_reducible rfl | decide))))); (· exact rfl); (· exact ho); (· with_reducible exact hr1); (· exact item_part x); (· decide +kernel))
        | (apply drawc_read_at; (· exact rfl); (· (first | exact wanted_plain rfl | (apply wanted_on; (· exact rfl); (· exact rfl); (· (first | with_reducible assumption | with_reducible rfl | decide))))); (· exact rfl); (· exact ho'); (· with_reducible exact hr2); (· exact item_part y); (· decide +kernel))
        | (apply drawc_pure; (· (first | exact wanted_plain rfl | (apply wanted_on; (· exact rfl); (· exact rfl); (· (first | with_reducible assumption | with_reducible rfl | decide))))); (· exact rfl); (· exact rfl); (· exact opD_neql rfl rfl rfl (eqItem x y)))
        | apply dwp_seq
        | apply dwp_region
        | apply ops_nil
        | (apply ops_plain; (· exact rfl))
        | (apply op_at; (· exact rfl))
        | refine dwp_drawc _ rfl ?_
        | apply drawc_nil
        | (apply drawc_pure; (· (first | exact wanted_plain rfl | (apply wanted_on; (· exact rfl); (· exact rfl); (· (first | with_reducible assumption | with_reducible rfl | decide))))); (· exact rfl); (· exact rfl); (· exact rfl))
        | (apply dwp_cond_t; (· exact rfl); (· (first | with_reducible assumption | with_reducible rfl | decide)))
        | (refine dwp_cond rfl ?_ ?_ <;> intro hb)
        | apply dwp_block
        | apply dwp_skip
        | apply dwp_ret
        | (refine ⟨_, rfl, ?_⟩)
        | fail)
      · refine ⟨?_, rfl⟩
        have hxy : ¬ x = y := by simpa using hb
        have : ¬ l = m := fun e => by subst e; rw [hx] at hy; cases hy; exact hxy rfl
        simp [this]
      · have hxy : x = y := by simpa using hb
        rw [hw]
        refine ⟨⟨k + 1, junk_facts (⟨by omega, fun i h2 => ?_⟩) rfl rfl⟩, ?_⟩
        · by_cases e : i = k
          · subst e; rw [hx, hy, hxy]
          · exact hbef i (by omega)
        · show l.length - ((k + 1 : Nat) : Int).toNat < l.length - (k : Int).toNat
          omega
    · have hc : decide ((k : Int) < (l.length : Int)) = false := by simp; omega
      repeat' (first
        | dsimp only [putD, DV.cells, DH.new_next, DH.set_next, List.length_cons, List.length_nil, Nat.reduceAdd, List.set_cons_zero, List.set_cons_succ, getD_zero, getD_succ, fieldAt_zero, fieldAt_succ, thenD, blockD, retR]
        | apply dwp_seq
        | apply dwp_region
        | apply ops_nil
        | (apply ops_plain; (· exact rfl))
        | (apply op_at; (· exact rfl))
        | (apply dwp_cond_f; (· exact rfl); (· (first | with_reducible assumption | with_reducible rfl | decide)))
        | apply dwp_ret
        | apply dwp_exit
        | (refine ⟨_, rfl, ?_⟩)
        | fail)
      refine ⟨?_, rfl⟩
      have : l = m := by
        apply List.ext_getElem?
        intro i
        by_cases hi : i < k
        · exact hbef i hi
        · rw [List.getElem?_eq_none (by omega), List.getElem?_eq_none (by omega)]
      simp [this]
def Kq.tidy (q : Kq) : Kq := ⟨if q.good then sortL q.l else q.l, q.nx, q.now, q.hor⟩
theorem tidy_yes {q : Kq} (h : q.good = true) : q.tidy.l = sortL q.l := by unfold Kq.tidy; rw [h]; rfl
theorem tidy_no {q : Kq} (h : q.good = false) : q.tidy.l = q.l := by unfold Kq.tidy; rw [h]; rfl
theorem Kq.tidy_ok {q : Kq} (h : q.ok) : q.tidy.ok := ⟨by unfold Kq.tidy; simp only; split <;> simp only [(sortL_perm _).length_eq, h.len], h.nx⟩
section
variable {A H : DH} {bs : List (Nat × DObj)} {fs : List (DH → Prop)} {s s2 : Sv} {q p : Kq} {K : DV → DH → Prop} {l m : List Item}
theorem psort_b (hB : Bx A H bs fs) (hm : InF (Is s.dv l) fs) (hn : l.length ≤ 1000000) (hk : ∀ (s' : Sv) H', Above H H' → Bx A H' bs (Is s'.dv (sortL l) :: fs) → K s'.dv H') : CallWp Try.prog K5 30 [s.dv] H K := by
  refine (CallWp.up up5K5 (sorted30 H s.dv l (hB.has hm) hn)).mono ?_
  rintro r H' ⟨ab, hi⟩
  obtain ⟨v, rfl⟩ := its_sv hi.its
  exact hk v _ ab (is_know hB ab hi)
theorem rsort_b (hB : Bx A H bs fs) (hm : InF (Is s.dv l) fs) (hn : l.length ≤ 1000000) (hk : ∀ (s' : Sv) H', Above H H' → Bx A H' bs (Is s'.dv (sortL l) :: fs) → K s'.dv H') : CallWp Try.prog K5 22 [s.dv] H K := by
  refine (CallWp.up upK5 (sorted_c (s := s.dv) (l := l) (hB.has hm) hn)).mono ?_
  rintro r H' ⟨ab, hi⟩
  obtain ⟨v, rfl⟩ := its_sv hi.its
  exact hk v _ ab (is_know hB ab hi)
theorem plsame_b (hB : Bx A H bs fs) (hm : InF (Is s.dv l) fs) (hm2 : InF (Is s2.dv m) fs) (hk : K (.bool (decide (l = m))) H) : CallWp Try.prog K5 68 [s.dv, s2.dv] H K := by
  obtain ⟨p, c, ex, e, hl⟩ := hB.has hm
  obtain ⟨p', c', ex', e', hl'⟩ := hB.has hm2
  rw [e, e']
  refine (psame68 H p p' c c' ex ex' l m hl hl').mono ?_
  rintro r H' ⟨rfl, rfl⟩
  exact hk
theorem tidy_b (hB : Bx A H bs fs) (hm : InF (Is s.dv q.l) fs) (hq : q.ok) (hk : ∀ (s' : Sv) H', Bx A H' bs (Is s'.dv q.tidy.l :: fs) → K (.agg [s'.dv, .int .u64 q.tidy.nx, .int .i64 q.tidy.now, .int .i64 q.tidy.hor]) H') :
    CallWp Try.prog K5 50 [.agg [s.dv, .int .u64 q.nx, .int .i64 q.now, .int .i64 q.hor]] H K := by
  cases hg : q.good with
  | false =>
    rw [tidy_no hg] at hk
    refine enter rfl Try.func50 rfl Try.ntmps50 rfl ?_
    dsimp only [List.cons_append, List.nil_append, List.length_cons, List.length_nil, List.replicate_succ, List.replicate_zero, Nat.reduceAdd, Nat.reduceSub]
    repeat' (first
      | dsimp only [putD, DV.cells, DH.new_next, DH.set_next, List.length_cons, List.length_nil, Nat.reduceAdd, List.set_cons_zero, List.set_cons_succ, getD_zero, getD_succ, fieldAt_zero, fieldAt_succ, thenD, blockD, retR]
      | (refine ⟨_, resOf_c (loadD_at rfl (Bx.get (by assumption) (by (repeat (first | with_reducible exact At.here | with_reducible apply At.there)))) rfl (by (first | exact part48 _ _ _ _ | exact part26 _ | exact part26' _ _ _ _ _ _ | exact rfl))), ?_⟩)
      | apply dwp_seq
      | apply dwp_region
      | apply ops_nil
      | (apply ops_plain; (· exact rfl))
      | (apply op_call; (· exact rfl); (· exact rfl); (· exact rfl); (apply check_b; (· assumption); (· (repeat (first | with_reducible exact InF.here | with_reducible assumption | with_reducible apply InF.there))); rw [show q.checkE = 1 by unfold Kq.checkE; rw [hg]; rfl]))
      | (apply op_call; (· exact rfl); (· exact rfl); (· exact rfl); (apply own_b; (· assumption); (· (repeat (first | with_reducible exact InF.here | with_reducible assumption | with_reducible apply InF.there))); (· (repeat (first | assumption | apply Kq.post_ok | apply Kq.rpost_ok | apply Kq.cancel_ok | apply Kq.rcancel_ok | apply Kq.step_ok | apply Kq.rstep_ok | apply kNew_ok))); intro s1 H1 hB))
      | (apply bx_load0; (· exact rfl); (· exact rfl); (· assumption); (· (repeat (first | with_reducible exact At.here | with_reducible apply At.there))); (· (first | exact part48 _ _ _ _ | exact part26 _ | exact part26' _ _ _ _ _ _ | exact rfl)))
      | (apply bx_store0; (· exact rfl); (· exact rfl); (· exact rfl); (· assumption); (· (first | (dsimp only [putD, DV.cells, DH.new_next, DH.set_next, List.length_cons, List.length_nil, Nat.reduceAdd, List.set_cons_zero, List.set_cons_succ, getD_zero, getD_succ, fieldAt_zero, fieldAt_succ, thenD, blockD, retR, Sv.cells]; done) | (dsimp only [putD, DV.cells, DH.new_next, DH.set_next, List.length_cons, List.length_nil, Nat.reduceAdd, List.set_cons_zero, List.set_cons_succ, getD_zero, getD_succ, fieldAt_zero, fieldAt_succ, thenD, blockD, retR, Sv.cells]; exact rfl) | exact rfl)); (· (repeat (first | with_reducible exact Upd.here | with_reducible apply Upd.there))); (· exact rfl); (· exact rfl); (· exact rfl); (· exact rfl); intro H1 hB)
      | (apply bx_box; (· exact rfl); (· exact rfl); (· (first | (dsimp only [putD, DV.cells, DH.new_next, DH.set_next, List.length_cons, List.length_nil, Nat.reduceAdd, List.set_cons_zero, List.set_cons_succ, getD_zero, getD_succ, fieldAt_zero, fieldAt_succ, thenD, blockD, retR, Sv.cells]; done) | (dsimp only [putD, DV.cells, DH.new_next, DH.set_next, List.length_cons, List.length_nil, Nat.reduceAdd, List.set_cons_zero, List.set_cons_succ, getD_zero, getD_succ, fieldAt_zero, fieldAt_succ, thenD, blockD, retR, Sv.cells]; exact rfl) | exact rfl)); (· exact rfl); (· exact rfl); (· assumption); intro b1 H1 hB)
      | (apply bx_alloc; (· exact rfl); (· exact zero48); (· (first | (dsimp only [putD, DV.cells, DH.new_next, DH.set_next, List.length_cons, List.length_nil, Nat.reduceAdd, List.set_cons_zero, List.set_cons_succ, getD_zero, getD_succ, fieldAt_zero, fieldAt_succ, thenD, blockD, retR, Sv.cells]; done) | (dsimp only [putD, DV.cells, DH.new_next, DH.set_next, List.length_cons, List.length_nil, Nat.reduceAdd, List.set_cons_zero, List.set_cons_succ, getD_zero, getD_succ, fieldAt_zero, fieldAt_succ, thenD, blockD, retR, Sv.cells]; exact rfl) | exact rfl)); (· exact rfl); (· exact rfl); (· assumption); intro b1 H1 hB)
      | (apply op_at; (· exact rfl))
      | (apply dwp_cond_t; (· exact rfl); (· (first | with_reducible assumption | with_reducible rfl | decide)))
      | apply dwp_ret
      | fail)
    exact hk _ _ hB.drop1.drop1
  | true =>
    rw [tidy_yes hg] at hk
    refine enter rfl Try.func50 rfl Try.ntmps50 rfl ?_
    dsimp only [List.cons_append, List.nil_append, List.length_cons, List.length_nil, List.replicate_succ, List.replicate_zero, Nat.reduceAdd, Nat.reduceSub]
    repeat' (first
      | dsimp only [putD, DV.cells, DH.new_next, DH.set_next, List.length_cons, List.length_nil, Nat.reduceAdd, List.set_cons_zero, List.set_cons_succ, getD_zero, getD_succ, fieldAt_zero, fieldAt_succ, thenD, blockD, retR]
      | (refine ⟨_, resOf_c (loadD_at rfl (Bx.get (by assumption) (by (repeat (first | with_reducible exact At.here | with_reducible apply At.there)))) rfl (by (first | exact part48 _ _ _ _ | exact part26 _ | exact part26' _ _ _ _ _ _ | exact rfl))), ?_⟩)
      | apply dwp_seq
      | apply dwp_region
      | apply ops_nil
      | (apply ops_plain; (· exact rfl))
      | (apply op_call; (· exact rfl); (· exact rfl); (· exact rfl); (apply check_b; (· assumption); (· (repeat (first | with_reducible exact InF.here | with_reducible assumption | with_reducible apply InF.there))); rw [show q.checkE = 0 by unfold Kq.checkE; rw [hg]; rfl]))
      | (apply op_call; (· exact rfl); (· exact rfl); (· exact rfl); (apply psort_b; (· assumption); (· (repeat (first | with_reducible exact InF.here | with_reducible assumption | with_reducible apply InF.there))); (· exact hq.len); intro s1 H1 hab hB))
      | (apply bx_load0; (· exact rfl); (· exact rfl); (· assumption); (· (repeat (first | with_reducible exact At.here | with_reducible apply At.there))); (· (first | exact part48 _ _ _ _ | exact part26 _ | exact part26' _ _ _ _ _ _ | exact rfl)))
      | (apply bx_store0; (· exact rfl); (· exact rfl); (· exact rfl); (· assumption); (· (first | (dsimp only [putD, DV.cells, DH.new_next, DH.set_next, List.length_cons, List.length_nil, Nat.reduceAdd, List.set_cons_zero, List.set_cons_succ, getD_zero, getD_succ, fieldAt_zero, fieldAt_succ, thenD, blockD, retR, Sv.cells]; done) | (dsimp only [putD, DV.cells, DH.new_next, DH.set_next, List.length_cons, List.length_nil, Nat.reduceAdd, List.set_cons_zero, List.set_cons_succ, getD_zero, getD_succ, fieldAt_zero, fieldAt_succ, thenD, blockD, retR, Sv.cells]; exact rfl) | exact rfl)); (· (repeat (first | with_reducible exact Upd.here | with_reducible apply Upd.there))); (· exact rfl); (· exact rfl); (· exact rfl); (· exact rfl); intro H1 hB)
      | (apply bx_store1; (· exact rfl); (· exact rfl); (· exact rfl); (· assumption); (· (first | (dsimp only [putD, DV.cells, DH.new_next, DH.set_next, List.length_cons, List.length_nil, Nat.reduceAdd, List.set_cons_zero, List.set_cons_succ, getD_zero, getD_succ, fieldAt_zero, fieldAt_succ, thenD, blockD, retR, Sv.cells]; done) | (dsimp only [putD, DV.cells, DH.new_next, DH.set_next, List.length_cons, List.length_nil, Nat.reduceAdd, List.set_cons_zero, List.set_cons_succ, getD_zero, getD_succ, fieldAt_zero, fieldAt_succ, thenD, blockD, retR, Sv.cells]; exact rfl) | exact rfl)); (· (repeat (first | with_reducible exact At.here | with_reducible apply At.there))); (· (first | (dsimp only [splice, List.take_zero, List.take_succ_cons, List.length_cons, List.length_nil, Nat.reduceAdd, Nat.zero_add, List.drop_zero, List.drop_succ_cons, List.drop_nil, List.nil_append, List.cons_append, List.append_nil, List.take_nil]; done) | (dsimp only [splice, List.take_zero, List.take_succ_cons, List.length_cons, List.length_nil, Nat.reduceAdd, Nat.zero_add, List.drop_zero, List.drop_succ_cons, List.drop_nil, List.nil_append, List.cons_append, List.append_nil, List.take_nil]; exact rfl) | exact rfl)); (· (repeat (first | with_reducible exact Upd.here | with_reducible apply Upd.there))); (· exact Nat.le_of_ble_eq_true rfl); (· exact rfl); (· exact rfl); (· exact rfl); intro H1 hB)
      | (apply bx_box; (· exact rfl); (· exact rfl); (· (first | (dsimp only [putD, DV.cells, DH.new_next, DH.set_next, List.length_cons, List.length_nil, Nat.reduceAdd, List.set_cons_zero, List.set_cons_succ, getD_zero, getD_succ, fieldAt_zero, fieldAt_succ, thenD, blockD, retR, Sv.cells]; done) | (dsimp only [putD, DV.cells, DH.new_next, DH.set_next, List.length_cons, List.length_nil, Nat.reduceAdd, List.set_cons_zero, List.set_cons_succ, getD_zero, getD_succ, fieldAt_zero, fieldAt_succ, thenD, blockD, retR, Sv.cells]; exact rfl) | exact rfl)); (· exact rfl); (· exact rfl); (· assumption); intro b1 H1 hB)
      | (apply bx_alloc; (· exact rfl); (· exact zero48); (· (first | (dsimp only [putD, DV.cells, DH.new_next, DH.set_next, List.length_cons, List.length_nil, Nat.reduceAdd, List.set_cons_zero, List.set_cons_succ, getD_zero, getD_succ, fieldAt_zero, fieldAt_succ, thenD, blockD, retR, Sv.cells]; done) | (dsimp only [putD, DV.cells, DH.new_next, DH.set_next, List.length_cons, List.length_nil, Nat.reduceAdd, List.set_cons_zero, List.set_cons_succ, getD_zero, getD_succ, fieldAt_zero, fieldAt_succ, thenD, blockD, retR, Sv.cells]; exact rfl) | exact rfl)); (· exact rfl); (· exact rfl); (· assumption); intro b1 H1 hB)
      | (apply op_at; (· exact rfl))
      | (apply dwp_cond_f; (· exact rfl); (· (first | with_reducible assumption | with_reducible rfl | decide)))
      | apply dwp_skip
      | apply dwp_ret
      | fail)
    exact hk _ _ hB.drop1.drop1
theorem rtidy_b (hB : Bx A H bs fs) (hm : InF (Is s.dv q.l) fs) (hq : q.ok) (hk : ∀ (s' : Sv) H', Bx A H' bs (Is s'.dv q.tidy.l :: fs) → K (.agg [s'.dv, .int .u64 q.tidy.nx, .int .i64 q.tidy.now, .int .i64 q.tidy.hor]) H') :
    CallWp Try.prog K5 51 [.agg [s.dv, .int .u64 q.nx, .int .i64 q.now, .int .i64 q.hor]] H K := by
  cases hg : q.good with
  | false =>
    rw [tidy_no hg] at hk
    refine enter rfl Try.func51 rfl Try.ntmps51 rfl ?_
    dsimp only [List.cons_append, List.nil_append, List.length_cons, List.length_nil, List.replicate_succ, List.replicate_zero, Nat.reduceAdd, Nat.reduceSub]
    repeat' (first
      | dsimp only [putD, DV.cells, DH.new_next, DH.set_next, List.length_cons, List.length_nil, Nat.reduceAdd, List.set_cons_zero, List.set_cons_succ, getD_zero, getD_succ, fieldAt_zero, fieldAt_succ, thenD, blockD, retR]
      | (refine ⟨_, resOf_c (loadD_at rfl (Bx.get (by assumption) (by (repeat (first | with_reducible exact At.here | with_reducible apply At.there)))) rfl (by (first | exact part48 _ _ _ _ | exact part26 _ | exact part26' _ _ _ _ _ _ | exact rfl))), ?_⟩)
      | apply dwp_seq
      | apply dwp_region
      | apply ops_nil
      | (apply ops_plain; (· exact rfl))
      | (apply op_call; (· exact rfl); (· exact rfl); (· exact rfl); (apply rcheck_b; (· assumption); (· (repeat (first | with_reducible exact InF.here | with_reducible assumption | with_reducible apply InF.there))); rw [show q.checkE = 1 by unfold Kq.checkE; rw [hg]; rfl]))
      | (apply op_call; (· exact rfl); (· exact rfl); (· exact rfl); (apply copy_b; (· assumption); (· (repeat (first | with_reducible exact InF.here | with_reducible assumption | with_reducible apply InF.there))); (· (repeat (first | assumption | apply Kq.post_ok | apply Kq.rpost_ok | apply Kq.cancel_ok | apply Kq.rcancel_ok | apply Kq.step_ok | apply Kq.rstep_ok | apply kNew_ok))); intro s1 H1 hB))
      | (apply bx_load0; (· exact rfl); (· exact rfl); (· assumption); (· (repeat (first | with_reducible exact At.here | with_reducible apply At.there))); (· (first | exact part48 _ _ _ _ | exact part26 _ | exact part26' _ _ _ _ _ _ | exact rfl)))
      | (apply bx_store0; (· exact rfl); (· exact rfl); (· exact rfl); (· assumption); (· (first | (dsimp only [putD, DV.cells, DH.new_next, DH.set_next, List.length_cons, List.length_nil, Nat.reduceAdd, List.set_cons_zero, List.set_cons_succ, getD_zero, getD_succ, fieldAt_zero, fieldAt_succ, thenD, blockD, retR, Sv.cells]; done) | (dsimp only [putD, DV.cells, DH.new_next, DH.set_next, List.length_cons, List.length_nil, Nat.reduceAdd, List.set_cons_zero, List.set_cons_succ, getD_zero, getD_succ, fieldAt_zero, fieldAt_succ, thenD, blockD, retR, Sv.cells]; exact rfl) | exact rfl)); (· (repeat (first | with_reducible exact Upd.here | with_reducible apply Upd.there))); (· exact rfl); (· exact rfl); (· exact rfl); (· exact rfl); intro H1 hB)
      | (apply bx_box; (· exact rfl); (· exact rfl); (· (first | (dsimp only [putD, DV.cells, DH.new_next, DH.set_next, List.length_cons, List.length_nil, Nat.reduceAdd, List.set_cons_zero, List.set_cons_succ, getD_zero, getD_succ, fieldAt_zero, fieldAt_succ, thenD, blockD, retR, Sv.cells]; done) | (dsimp only [putD, DV.cells, DH.new_next, DH.set_next, List.length_cons, List.length_nil, Nat.reduceAdd, List.set_cons_zero, List.set_cons_succ, getD_zero, getD_succ, fieldAt_zero, fieldAt_succ, thenD, blockD, retR, Sv.cells]; exact rfl) | exact rfl)); (· exact rfl); (· exact rfl); (· assumption); intro b1 H1 hB)
      | (apply bx_alloc; (· exact rfl); (· exact zero48); (· (first | (dsimp only [putD, DV.cells, DH.new_next, DH.set_next, List.length_cons, List.length_nil, Nat.reduceAdd, List.set_cons_zero, List.set_cons_succ, getD_zero, getD_succ, fieldAt_zero, fieldAt_succ, thenD, blockD, retR, Sv.cells]; done) | (dsimp only [putD, DV.cells, DH.new_next, DH.set_next, List.length_cons, List.length_nil, Nat.reduceAdd, List.set_cons_zero, List.set_cons_succ, getD_zero, getD_succ, fieldAt_zero, fieldAt_succ, thenD, blockD, retR, Sv.cells]; exact rfl) | exact rfl)); (· exact rfl); (· exact rfl); (· assumption); intro b1 H1 hB)
      | (apply op_at; (· exact rfl))
      | (apply dwp_cond_f; (· exact rfl); (· (first | with_reducible assumption | with_reducible rfl | decide)))
      | apply dwp_skip
      | apply dwp_ret
      | fail)
    exact hk _ _ hB.drop1.drop1.drop1
  | true =>
    rw [tidy_yes hg] at hk
    refine enter rfl Try.func51 rfl Try.ntmps51 rfl ?_
    dsimp only [List.cons_append, List.nil_append, List.length_cons, List.length_nil, List.replicate_succ, List.replicate_zero, Nat.reduceAdd, Nat.reduceSub]
    repeat' (first
      | dsimp only [putD, DV.cells, DH.new_next, DH.set_next, List.length_cons, List.length_nil, Nat.reduceAdd, List.set_cons_zero, List.set_cons_succ, getD_zero, getD_succ, fieldAt_zero, fieldAt_succ, thenD, blockD, retR]
      | (refine ⟨_, resOf_c (loadD_at rfl (Bx.get (by assumption) (by (repeat (first | with_reducible exact At.here | with_reducible apply At.there)))) rfl (by (first | exact part48 _ _ _ _ | exact part26 _ | exact part26' _ _ _ _ _ _ | exact rfl))), ?_⟩)
      | apply dwp_seq
      | apply dwp_region
      | apply ops_nil
      | (apply ops_plain; (· exact rfl))
      | (apply op_call; (· exact rfl); (· exact rfl); (· exact rfl); (apply rcheck_b; (· assumption); (· (repeat (first | with_reducible exact InF.here | with_reducible assumption | with_reducible apply InF.there))); rw [show q.checkE = 0 by unfold Kq.checkE; rw [hg]; rfl]))
      | (apply op_call; (· exact rfl); (· exact rfl); (· exact rfl); (apply copy_b; (· assumption); (· (repeat (first | with_reducible exact InF.here | with_reducible assumption | with_reducible apply InF.there))); (· (repeat (first | assumption | apply Kq.post_ok | apply Kq.rpost_ok | apply Kq.cancel_ok | apply Kq.rcancel_ok | apply Kq.step_ok | apply Kq.rstep_ok | apply kNew_ok))); intro s1 H1 hB))
      | (apply op_call; (· exact rfl); (· exact rfl); (· exact rfl); (apply rsort_b; (· assumption); (· (repeat (first | with_reducible exact InF.here | with_reducible assumption | with_reducible apply InF.there))); (· exact hq.len); intro s1 H1 hab hB))
      | (apply bx_load0; (· exact rfl); (· exact rfl); (· assumption); (· (repeat (first | with_reducible exact At.here | with_reducible apply At.there))); (· (first | exact part48 _ _ _ _ | exact part26 _ | exact part26' _ _ _ _ _ _ | exact rfl)))
      | (apply bx_store0; (· exact rfl); (· exact rfl); (· exact rfl); (· assumption); (· (first | (dsimp only [putD, DV.cells, DH.new_next, DH.set_next, List.length_cons, List.length_nil, Nat.reduceAdd, List.set_cons_zero, List.set_cons_succ, getD_zero, getD_succ, fieldAt_zero, fieldAt_succ, thenD, blockD, retR, Sv.cells]; done) | (dsimp only [putD, DV.cells, DH.new_next, DH.set_next, List.length_cons, List.length_nil, Nat.reduceAdd, List.set_cons_zero, List.set_cons_succ, getD_zero, getD_succ, fieldAt_zero, fieldAt_succ, thenD, blockD, retR, Sv.cells]; exact rfl) | exact rfl)); (· (repeat (first | with_reducible exact Upd.here | with_reducible apply Upd.there))); (· exact rfl); (· exact rfl); (· exact rfl); (· exact rfl); intro H1 hB)
      | (apply bx_store1; (· exact rfl); (· exact rfl); (· exact rfl); (· assumption); (· (first | (dsimp only [putD, DV.cells, DH.new_next, DH.set_next, List.length_cons, List.length_nil, Nat.reduceAdd, List.set_cons_zero, List.set_cons_succ, getD_zero, getD_succ, fieldAt_zero, fieldAt_succ, thenD, blockD, retR, Sv.cells]; done) | (dsimp only [putD, DV.cells, DH.new_next, DH.set_next, List.length_cons, List.length_nil, Nat.reduceAdd, List.set_cons_zero, List.set_cons_succ, getD_zero, getD_succ, fieldAt_zero, fieldAt_succ, thenD, blockD, retR, Sv.cells]; exact rfl) | exact rfl)); (· (repeat (first | with_reducible exact At.here | with_reducible apply At.there))); (· (first | (dsimp only [splice, List.take_zero, List.take_succ_cons, List.length_cons, List.length_nil, Nat.reduceAdd, Nat.zero_add, List.drop_zero, List.drop_succ_cons, List.drop_nil, List.nil_append, List.cons_append, List.append_nil, List.take_nil]; done) | (dsimp only [splice, List.take_zero, List.take_succ_cons, List.length_cons, List.length_nil, Nat.reduceAdd, Nat.zero_add, List.drop_zero, List.drop_succ_cons, List.drop_nil, List.nil_append, List.cons_append, List.append_nil, List.take_nil]; exact rfl) | exact rfl)); (· (repeat (first | with_reducible exact Upd.here | with_reducible apply Upd.there))); (· exact Nat.le_of_ble_eq_true rfl); (· exact rfl); (· exact rfl); (· exact rfl); intro H1 hB)
      | (apply bx_box; (· exact rfl); (· exact rfl); (· (first | (dsimp only [putD, DV.cells, DH.new_next, DH.set_next, List.length_cons, List.length_nil, Nat.reduceAdd, List.set_cons_zero, List.set_cons_succ, getD_zero, getD_succ, fieldAt_zero, fieldAt_succ, thenD, blockD, retR, Sv.cells]; done) | (dsimp only [putD, DV.cells, DH.new_next, DH.set_next, List.length_cons, List.length_nil, Nat.reduceAdd, List.set_cons_zero, List.set_cons_succ, getD_zero, getD_succ, fieldAt_zero, fieldAt_succ, thenD, blockD, retR, Sv.cells]; exact rfl) | exact rfl)); (· exact rfl); (· exact rfl); (· assumption); intro b1 H1 hB)
      | (apply bx_alloc; (· exact rfl); (· exact zero48); (· (first | (dsimp only [putD, DV.cells, DH.new_next, DH.set_next, List.length_cons, List.length_nil, Nat.reduceAdd, List.set_cons_zero, List.set_cons_succ, getD_zero, getD_succ, fieldAt_zero, fieldAt_succ, thenD, blockD, retR, Sv.cells]; done) | (dsimp only [putD, DV.cells, DH.new_next, DH.set_next, List.length_cons, List.length_nil, Nat.reduceAdd, List.set_cons_zero, List.set_cons_succ, getD_zero, getD_succ, fieldAt_zero, fieldAt_succ, thenD, blockD, retR, Sv.cells]; exact rfl) | exact rfl)); (· exact rfl); (· exact rfl); (· assumption); intro b1 H1 hB)
      | (apply op_at; (· exact rfl))
      | (apply dwp_cond_t; (· exact rfl); (· (first | with_reducible assumption | with_reducible rfl | decide)))
      | apply dwp_ret
      | fail)
    exact hk _ _ hB.drop1.drop1.drop1.skip1
theorem same53 (h1 : Its H s.dv q.l) (h2 : Its H s2.dv p.l) (hq : q.ok) (hp : p.ok) :
    CallWp Try.prog K5 53 [.agg [s.dv, .int .u64 q.nx, .int .i64 q.now, .int .i64 q.hor], .agg [s2.dv, .int .u64 p.nx, .int .i64 p.now, .int .i64 p.hor]] H (fun r H' => r = .bool (q.same p) ∧ Above H H') := by
  have hB : Bx H H [] [Is s.dv q.l, Is s2.dv p.l] := Bx.init (fun f hf => by
    simp only [List.mem_cons, List.not_mem_nil, or_false] at hf
    rcases hf with rfl | rfl
    · exact is_init h1
    · exact is_init h2)
  unfold Kq.same ksame
  cases h1 : (q.nx == p.nx) with
  | false =>
    refine enter rfl Try.func53 rfl Try.ntmps53 rfl ?_
    dsimp only [List.cons_append, List.nil_append, List.length_cons, List.length_nil, List.replicate_succ, List.replicate_zero, Nat.reduceAdd, Nat.reduceSub]
    repeat' (first
      | dsimp only [putD, DV.cells, DH.new_next, DH.set_next, List.length_cons, List.length_nil, Nat.reduceAdd, List.set_cons_zero, List.set_cons_succ, getD_zero, getD_succ, fieldAt_zero, fieldAt_succ, thenD, blockD, retR]
      | apply dwp_seq
      | apply dwp_region
      | apply ops_nil
      | (apply ops_plain; (· exact rfl))
      | (apply bx_box; (· exact rfl); (· exact rfl); (· (first | (dsimp only [putD, DV.cells, DH.new_next, DH.set_next, List.length_cons, List.length_nil, Nat.reduceAdd, List.set_cons_zero, List.set_cons_succ, getD_zero, getD_succ, fieldAt_zero, fieldAt_succ, thenD, blockD, retR, Sv.cells]; done) | (dsimp only [putD, DV.cells, DH.new_next, DH.set_next, List.length_cons, List.length_nil, Nat.reduceAdd, List.set_cons_zero, List.set_cons_succ, getD_zero, getD_succ, fieldAt_zero, fieldAt_succ, thenD, blockD, retR, Sv.cells]; exact rfl) | exact rfl)); (· exact rfl); (· exact rfl); (· assumption); intro b1 H1 hB)
      | (apply op_at; (· exact rfl))
      | refine dwp_drawp _ rfl (fun H' => Above _ H') (Above.refl _) ?_
      | apply drawp_nil
      | (apply drawp_bx_load; (· exact rfl); (· (first | exact wanted_plain rfl | (apply wanted_on; (· exact rfl); (· exact rfl); (· (first | with_reducible assumption | with_reducible rfl | decide))))); (· exact rfl); (· assumption); (· (repeat (first | with_reducible exact At.here | with_reducible apply At.there))); (· exact rfl); (· (first | exact part48 _ _ _ _ | exact part26 _ | exact part26' _ _ _ _ _ _ | exact rfl)); (· decide +kernel))
      | (apply drawp_pick_f; (· (first | exact wanted_plain rfl | (apply wanted_on; (· exact rfl); (· exact rfl); (· (first | with_reducible assumption | with_reducible rfl | decide))))); (· exact rfl); (· exact rfl); (· (first | with_reducible assumption | with_reducible rfl | decide)); (· exact rfl))
      | (apply drawp_pure; (· (first | exact wanted_plain rfl | (apply wanted_on; (· exact rfl); (· exact rfl); (· (first | with_reducible assumption | with_reducible rfl | decide))))); (· exact rfl); (· exact rfl); (· exact rfl))
      | (apply drawp_off; (· (first | (apply wanted_off1; (· exact rfl); (· exact rfl); (· (first | with_reducible assumption | with_reducible rfl | decide))) | (apply wanted_off0; (· exact rfl); (· exact rfl); (· (first | with_reducible assumption | with_reducible rfl | decide))) | (apply wanted_none; (· exact rfl); (· exact rfl)))))
      | apply dwp_ret
      | (refine ⟨_, rfl, ?_⟩)
      | fail)
    exact ⟨rfl, hB.ab⟩
  | true =>
    cases h2 : (q.now == p.now) with
    | false =>
      refine enter rfl Try.func53 rfl Try.ntmps53 rfl ?_
      dsimp only [List.cons_append, List.nil_append, List.length_cons, List.length_nil, List.replicate_succ, List.replicate_zero, Nat.reduceAdd, Nat.reduceSub]
      repeat' (first
        | dsimp only [putD, DV.cells, DH.new_next, DH.set_next, List.length_cons, List.length_nil, Nat.reduceAdd, List.set_cons_zero, List.set_cons_succ, getD_zero, getD_succ, fieldAt_zero, fieldAt_succ, thenD, blockD, retR]
        | apply dwp_seq
        | apply dwp_region
        | apply ops_nil
        | (apply ops_plain; (· exact rfl))
        | (apply bx_box; (· exact rfl); (· exact rfl); (· (first | (dsimp only [putD, DV.cells, DH.new_next, DH.set_next, List.length_cons, List.length_nil, Nat.reduceAdd, List.set_cons_zero, List.set_cons_succ, getD_zero, getD_succ, fieldAt_zero, fieldAt_succ, thenD, blockD, retR, Sv.cells]; done) | (dsimp only [putD, DV.cells, DH.new_next, DH.set_next, List.length_cons, List.length_nil, Nat.reduceAdd, List.set_cons_zero, List.set_cons_succ, getD_zero, getD_succ, fieldAt_zero, fieldAt_succ, thenD, blockD, retR, Sv.cells]; exact rfl) | exact rfl)); (· exact rfl); (· exact rfl); (· assumption); intro b1 H1 hB)
        | (apply op_at; (· exact rfl))
        | refine dwp_drawp _ rfl (fun H' => Above _ H') (Above.refl _) ?_
        | apply drawp_nil
        | (apply drawp_bx_load; (· exact rfl); (· (first | exact wanted_plain rfl | (apply wanted_on; (· exact rfl); (· exact rfl); (· (first | with_reducible assumption | with_reducible rfl | decide))))); (· exact rfl); (· assumption); (· (repeat (first | with_reducible exact At.here | with_reducible apply At.there))); (· exact rfl); (· (first | exact part48 _ _ _ _ | exact part26 _ | exact part26' _ _ _ _ _ _ | exact rfl)); (· decide +kernel))
        | (apply drawp_pick_t; (· (first | exact wanted_plain rfl | (apply wanted_on; (· exact rfl); (· exact rfl); (· (first | with_reducible assumption | with_reducible rfl | decide))))); (· exact rfl); (· exact rfl); (· (first | with_reducible assumption | with_reducible rfl | decide)); (· exact rfl))
        | (apply drawp_pick_f; (· (first | exact wanted_plain rfl | (apply wanted_on; (· exact rfl); (· exact rfl); (· (first | with_reducible assumption | with_reducible rfl | decide))))); (· exact rfl); (· exact rfl); (· (first | with_reducible assumption | with_reducible rfl | decide)); (· exact rfl))
        | (apply drawp_pure; (· (first | exact wanted_plain rfl | (apply wanted_on; (· exact rfl); (· exact rfl); (· (first | with_reducible assumption | with_reducible rfl | decide))))); (· exact rfl); (· exact rfl); (· exact rfl))
        | (apply drawp_off; (· (first | (apply wanted_off1; (· exact rfl); (· exact rfl); (· (first | with_reducible assumption | with_reducible rfl | decide))) | (apply wanted_off0; (· exact rfl); (· exact rfl); (· (first | with_reducible assumption | with_reducible rfl | decide))) | (apply wanted_none; (· exact rfl); (· exact rfl)))))
        | apply dwp_ret
        | (refine ⟨_, rfl, ?_⟩)
        | fail)
      exact ⟨rfl, hB.ab⟩
    | true =>
      cases h3 : (q.hor == p.hor) with
      | false =>
        refine enter rfl Try.func53 rfl Try.ntmps53 rfl ?_
        dsimp only [List.cons_append, List.nil_append, List.length_cons, List.length_nil, List.replicate_succ, List.replicate_zero, Nat.reduceAdd, Nat.reduceSub]
        repeat' (first
          | dsimp only [putD, DV.cells, DH.new_next, DH.set_next, List.length_cons, List.length_nil, Nat.reduceAdd, List.set_cons_zero, List.set_cons_succ, getD_zero, getD_succ, fieldAt_zero, fieldAt_succ, thenD, blockD, retR]
          | apply dwp_seq
          | apply dwp_region
          | apply ops_nil
          | (apply ops_plain; (· exact rfl))
          | (apply bx_box; (· exact rfl); (· exact rfl); (· (first | (dsimp only [putD, DV.cells, DH.new_next, DH.set_next, List.length_cons, List.length_nil, Nat.reduceAdd, List.set_cons_zero, List.set_cons_succ, getD_zero, getD_succ, fieldAt_zero, fieldAt_succ, thenD, blockD, retR, Sv.cells]; done) | (dsimp only [putD, DV.cells, DH.new_next, DH.set_next, List.length_cons, List.length_nil, Nat.reduceAdd, List.set_cons_zero, List.set_cons_succ, getD_zero, getD_succ, fieldAt_zero, fieldAt_succ, thenD, blockD, retR, Sv.cells]; exact rfl) | exact rfl)); (· exact rfl); (· exact rfl); (· assumption); intro b1 H1 hB)
          | (apply op_at; (· exact rfl))
          | refine dwp_drawp _ rfl (fun H' => Above _ H') (Above.refl _) ?_
          | apply drawp_nil
          | (apply drawp_bx_load; (· exact rfl); (· (first | exact wanted_plain rfl | (apply wanted_on; (· exact rfl); (· exact rfl); (· (first | with_reducible assumption | with_reducible rfl | decide))))); (· exact rfl); (· assumption); (· (repeat (first | with_reducible exact At.here | with_reducible apply At.there))); (· exact rfl); (· (first | exact part48 _ _ _ _ | exact part26 _ | exact part26' _ _ _ _ _ _ | exact rfl)); (· decide +kernel))
          | (apply drawp_pick_t; (· (first | exact wanted_plain rfl | (apply wanted_on; (· exact rfl); (· exact rfl); (· (first | with_reducible assumption | with_reducible rfl | decide))))); (· exact rfl); (· exact rfl); (· (first | with_reducible assumption | with_reducible rfl | decide)); (· exact rfl))
          | (apply drawp_pick_f; (· (first | exact wanted_plain rfl | (apply wanted_on; (· exact rfl); (· exact rfl); (· (first | with_reducible assumption | with_reducible rfl | decide))))); (· exact rfl); (· exact rfl); (· (first | with_reducible assumption | with_reducible rfl | decide)); (· exact rfl))
          | (apply drawp_pure; (· (first | exact wanted_plain rfl | (apply wanted_on; (· exact rfl); (· exact rfl); (· (first | with_reducible assumption | with_reducible rfl | decide))))); (· exact rfl); (· exact rfl); (· exact rfl))
          | (apply drawp_off; (· (first | (apply wanted_off1; (· exact rfl); (· exact rfl); (· (first | with_reducible assumption | with_reducible rfl | decide))) | (apply wanted_off0; (· exact rfl); (· exact rfl); (· (first | with_reducible assumption | with_reducible rfl | decide))) | (apply wanted_none; (· exact rfl); (· exact rfl)))))
          | apply dwp_ret
          | (refine ⟨_, rfl, ?_⟩)
          | fail)
        exact ⟨rfl, hB.ab⟩
      | true =>
        refine enter rfl Try.func53 rfl Try.ntmps53 rfl ?_
        dsimp only [List.cons_append, List.nil_append, List.length_cons, List.length_nil, List.replicate_succ, List.replicate_zero, Nat.reduceAdd, Nat.reduceSub]
        repeat' (first
          | dsimp only [putD, DV.cells, DH.new_next, DH.set_next, List.length_cons, List.length_nil, Nat.reduceAdd, List.set_cons_zero, List.set_cons_succ, getD_zero, getD_succ, fieldAt_zero, fieldAt_succ, thenD, blockD, retR]
          | apply dwp_seq
          | apply dwp_region
          | apply ops_nil
          | (apply ops_plain; (· exact rfl))
          | (apply bx_box; (· exact rfl); (· exact rfl); (· (first | (dsimp only [putD, DV.cells, DH.new_next, DH.set_next, List.length_cons, List.length_nil, Nat.reduceAdd, List.set_cons_zero, List.set_cons_succ, getD_zero, getD_succ, fieldAt_zero, fieldAt_succ, thenD, blockD, retR, Sv.cells]; done) | (dsimp only [putD, DV.cells, DH.new_next, DH.set_next, List.length_cons, List.length_nil, Nat.reduceAdd, List.set_cons_zero, List.set_cons_succ, getD_zero, getD_succ, fieldAt_zero, fieldAt_succ, thenD, blockD, retR, Sv.cells]; exact rfl) | exact rfl)); (· exact rfl); (· exact rfl); (· assumption); intro b1 H1 hB)
          | (apply op_at; (· exact rfl))
          | (apply op_call; (· exact rfl); (· exact rfl); (· exact rfl); (apply psort_b; (· assumption); (· (repeat (first | with_reducible exact InF.here | with_reducible assumption | with_reducible apply InF.there))); (· first | exact hq.len | exact hp.len); intro s1 H1 hab hB); refine ⟨(by (first | exact Above.refl _ | assumption | exact Above.trans (by assumption) (by assumption))), ?_⟩)
          | (apply op_call; (· exact rfl); (· exact rfl); (· exact rfl); (apply plsame_b; (· assumption); (· (repeat (first | with_reducible exact InF.here | with_reducible assumption | with_reducible apply InF.there))); (· (repeat (first | with_reducible exact InF.here | with_reducible assumption | with_reducible apply InF.there)))); refine ⟨(by (first | exact Above.refl _ | assumption | exact Above.trans (by assumption) (by assumption))), ?_⟩)
          | refine dwp_drawp _ rfl (fun H' => Above _ H') (Above.refl _) ?_
          | apply drawp_nil
          | (apply drawp_bx_load; (· exact rfl); (· (first | exact wanted_plain rfl | (apply wanted_on; (· exact rfl); (· exact rfl); (· (first | with_reducible assumption | with_reducible rfl | decide))))); (· exact rfl); (· assumption); (· (repeat (first | with_reducible exact At.here | with_reducible apply At.there))); (· exact rfl); (· (first | exact part48 _ _ _ _ | exact part26 _ | exact part26' _ _ _ _ _ _ | exact rfl)); (· decide +kernel))
          | (apply drawp_pick_t; (· (first | exact wanted_plain rfl | (apply wanted_on; (· exact rfl); (· exact rfl); (· (first | with_reducible assumption | with_reducible rfl | decide))))); (· exact rfl); (· exact rfl); (· (first | with_reducible assumption | with_reducible rfl | decide)); (· exact rfl))
          | (apply drawp_pure; (· (first | exact wanted_plain rfl | (apply wanted_on; (· exact rfl); (· exact rfl); (· (first | with_reducible assumption | with_reducible rfl | decide))))); (· exact rfl); (· exact rfl); (· exact rfl))
          | (apply drawp_move; (· (first | exact wanted_plain rfl | (apply wanted_on; (· exact rfl); (· exact rfl); (· (first | with_reducible assumption | with_reducible rfl | decide))))); (· exact rfl); (· decide +kernel))
          | apply dwp_ret
          | (refine ⟨_, rfl, ?_⟩)
          | fail)
        exact ⟨rfl, hB.ab⟩
theorem psame_b (hB : Bx A H bs fs) (hm : InF (Is s.dv q.l) fs) (hm2 : InF (Is s2.dv p.l) fs) (hq : q.ok) (hp : p.ok) (hk : ∀ H', Above H H' → Bx A H' bs fs → K (.bool (q.same p)) H') :
    CallWp Try.prog K5 53 [.agg [s.dv, .int .u64 q.nx, .int .i64 q.now, .int .i64 q.hor], .agg [s2.dv, .int .u64 p.nx, .int .i64 p.now, .int .i64 p.hor]] H K := by
  refine (same53 (hB.has hm) (hB.has hm2) hq hp).mono ?_
  rintro r H' ⟨rfl, ab⟩
  exact hk _ ab (hB.grow ab)
end
end Go.Det.Q

/- KernelDoes: the law's own text. -/
namespace Go.Det.Q
open Go Go.Det Go.Proofs
set_option maxRecDepth 4000
set_option maxHeartbeats 16000000
set_option linter.unusedVariables false
set_option linter.unusedSimpArgs false
theorem few_no {q : Kq} {A H : DH} {bs : List (Nat × DObj)} {fs : List (DH → Prop)} {s : Sv} {K : DV → DH → Prop} (hno : decide ((q.l.length : Int) ≤ 200) = false) (hB : Bx A H bs fs) (hm : InF (Is s.dv q.l) fs) (hk : K (.bool false) H) : CallWp Try.prog K5 35 [.agg [s.dv, .int .u64 q.nx, .int .i64 q.now, .int .i64 q.hor]] H K :=
  few_b hB hm (by rw [hno]; exact hk)
theorem few_yes {q : Kq} {A H : DH} {bs : List (Nat × DObj)} {fs : List (DH → Prop)} {s : Sv} {K : DV → DH → Prop} (hno : decide ((q.l.length : Int) ≤ 200) = true) (hB : Bx A H bs fs) (hm : InF (Is s.dv q.l) fs) (hk : K (.bool true) H) : CallWp Try.prog K5 35 [.agg [s.dv, .int .u64 q.nx, .int .i64 q.now, .int .i64 q.hor]] H K :=
  few_b hB hm (by rw [hno]; exact hk)
theorem kq_arg {H : DH} (hw : WF H) {d : DV} (h : TArg Try.prog H 48 d) : ∃ (s : Sv) (q : Kq), d = .agg [s.dv, .int .u64 q.nx, .int .i64 q.now, .int .i64 q.hor] ∧ Its H s.dv q.l ∧ (∀ x ∈ q.l, x.ok) ∧ u64ok q.nx ∧ i64ok q.now ∧ i64ok q.hor := by
  obtain ⟨p, c, ex, l, nx, now, hor, rfl, hl, h1, h2, h3, h4⟩ := kern_arg hw h
  exact ⟨⟨p, l.length, c, ex⟩, ⟨l, nx, now, hor⟩, rfl, ⟨p, c, ex, rfl, hl⟩, h1, h2, h3, h4⟩
end Go.Det.Q

/- KernelTells: the law's own text. -/
namespace Go.Det.Q
open Go Go.Det Go.Proofs
set_option maxRecDepth 4000
set_option maxHeartbeats 16000000
set_option linter.unusedVariables false
set_option linter.unusedSimpArgs false
theorem few_dec (l : List Item) : decide ((l.length : Int) ≤ 200) = false ∨ (decide ((l.length : Int) ≤ 200) = true ∧ l.length ≤ 1000000 ∧ l.length ≤ 200) := by
  cases h : decide ((l.length : Int) ≤ 200) with
  | false => exact .inl rfl
  | true => rw [decide_eq_true_eq] at h; exact .inr ⟨rfl, by omega, by omega⟩
theorem Kq.same_self (q : Kq) : q.same q = true := by unfold Kq.same ksame; simp
theorem law11 (H : DH) (s s2 : Sv) (q p : Kq) (h1 : Its H s.dv q.l) (h2 : Its H s2.dv p.l) (hn : u64ok q.nx) (hm : u64ok p.nx) :
    CallWp Try.prog K5 11 [.agg [s.dv, .int .u64 q.nx, .int .i64 q.now, .int .i64 q.hor], .agg [s2.dv, .int .u64 p.nx, .int .i64 p.now, .int .i64 p.hor]] H (fun r H' => r = .bool true) := by
  have hB : Bx H H [] [Is s.dv q.l, Is s2.dv p.l] := Bx.init (fun f hf => by
    simp only [List.mem_cons, List.not_mem_nil, or_false] at hf
    rcases hf with rfl | rfl
    · exact is_init h1
    · exact is_init h2)
  rcases few_dec q.l with hf | ⟨hf, hl, _⟩
  · skip
    refine enter rfl Try.func11 rfl Try.ntmps11 rfl ?_
    dsimp only [List.cons_append, List.nil_append, List.length_cons, List.length_nil, List.replicate_succ, List.replicate_zero, Nat.reduceAdd, Nat.reduceSub]
    repeat' (first
      | dsimp only [putD, DV.cells, DH.new_next, DH.set_next, List.length_cons, List.length_nil, Nat.reduceAdd, List.set_cons_zero, List.set_cons_succ, getD_zero, getD_succ, fieldAt_zero, fieldAt_succ, thenD, blockD, retR]
      | apply dwp_seq
      | apply dwp_region
      | apply ops_nil
      | (apply ops_plain; (· exact rfl))
      | (apply ops_off0; (· exact rfl); (· exact rfl); (· (first | with_reducible assumption | with_reducible rfl | decide)))
      | (apply op_call; (· exact rfl); (· exact rfl); (· exact rfl); refine call_table (g := gLive) rfl rfl ?_)
      | (apply op_call; (· exact rfl); (· exact rfl); (· exact rfl); (apply few_no (by with_reducible assumption); (· assumption); (· (repeat (first | with_reducible exact InF.here | with_reducible assumption | with_reducible apply InF.there)))))
      | (apply op_pick_t; (· exact rfl); (· exact rfl); (· (first | with_reducible assumption | with_reducible rfl | decide)); (· exact rfl))
      | (apply bx_load0; (· exact rfl); (· exact rfl); (· assumption); (· (repeat (first | with_reducible exact At.here | with_reducible apply At.there))); (· (first | exact part48 _ _ _ _ | exact part26 _ | exact part26' _ _ _ _ _ _ | exact rfl)))
      | (apply bx_box; (· exact rfl); (· exact rfl); (· (first | (dsimp only [putD, DV.cells, DH.new_next, DH.set_next, List.length_cons, List.length_nil, Nat.reduceAdd, List.set_cons_zero, List.set_cons_succ, getD_zero, getD_succ, fieldAt_zero, fieldAt_succ, thenD, blockD, retR, Sv.cells]; done) | (dsimp only [putD, DV.cells, DH.new_next, DH.set_next, List.length_cons, List.length_nil, Nat.reduceAdd, List.set_cons_zero, List.set_cons_succ, getD_zero, getD_succ, fieldAt_zero, fieldAt_succ, thenD, blockD, retR, Sv.cells]; exact rfl) | exact rfl)); (· exact rfl); (· exact rfl); (· assumption); intro b1 H1 hB)
      | (apply op_at; (· exact rfl))
      | (apply dwp_cond_t; (· exact rfl); (· (first | with_reducible assumption | with_reducible rfl | decide)))
      | apply dwp_ret
      | (refine ⟨_, rfl, ?_⟩)
      | fail)
  · rcases few_dec p.l with hg | ⟨hg, hl2, _⟩
    · skip
      refine enter rfl Try.func11 rfl Try.ntmps11 rfl ?_
      dsimp only [List.cons_append, List.nil_append, List.length_cons, List.length_nil, List.replicate_succ, List.replicate_zero, Nat.reduceAdd, Nat.reduceSub]
      repeat' (first
        | dsimp only [putD, DV.cells, DH.new_next, DH.set_next, List.length_cons, List.length_nil, Nat.reduceAdd, List.set_cons_zero, List.set_cons_succ, getD_zero, getD_succ, fieldAt_zero, fieldAt_succ, thenD, blockD, retR]
        | apply dwp_seq
        | apply dwp_region
        | apply ops_nil
        | (apply ops_plain; (· exact rfl))
        | (apply ops_on; (· exact rfl); (· exact rfl); (· (first | with_reducible assumption | with_reducible rfl | decide)))
        | (apply op_call; (· exact rfl); (· exact rfl); (· exact rfl); refine call_table (g := gLive) rfl rfl ?_)
        | (apply op_call; (· exact rfl); (· exact rfl); (· exact rfl); (apply few_yes (by with_reducible assumption); (· assumption); (· (repeat (first | with_reducible exact InF.here | with_reducible assumption | with_reducible apply InF.there)))))
        | (apply op_call; (· exact rfl); (· exact rfl); (· exact rfl); (apply few_no (by with_reducible assumption); (· assumption); (· (repeat (first | with_reducible exact InF.here | with_reducible assumption | with_reducible apply InF.there)))))
        | (apply op_pick_f; (· exact rfl); (· exact rfl); (· (first | with_reducible assumption | with_reducible rfl | decide)); (· exact rfl))
        | (apply bx_load0; (· exact rfl); (· exact rfl); (· assumption); (· (repeat (first | with_reducible exact At.here | with_reducible apply At.there))); (· (first | exact part48 _ _ _ _ | exact part26 _ | exact part26' _ _ _ _ _ _ | exact rfl)))
        | (apply bx_box; (· exact rfl); (· exact rfl); (· (first | (dsimp only [putD, DV.cells, DH.new_next, DH.set_next, List.length_cons, List.length_nil, Nat.reduceAdd, List.set_cons_zero, List.set_cons_succ, getD_zero, getD_succ, fieldAt_zero, fieldAt_succ, thenD, blockD, retR, Sv.cells]; done) | (dsimp only [putD, DV.cells, DH.new_next, DH.set_next, List.length_cons, List.length_nil, Nat.reduceAdd, List.set_cons_zero, List.set_cons_succ, getD_zero, getD_succ, fieldAt_zero, fieldAt_succ, thenD, blockD, retR, Sv.cells]; exact rfl) | exact rfl)); (· exact rfl); (· exact rfl); (· assumption); intro b1 H1 hB)
        | (apply op_at; (· exact rfl))
        | (apply dwp_cond_t; (· exact rfl); (· (first | with_reducible assumption | with_reducible rfl | decide)))
        | apply dwp_ret
        | (refine ⟨_, rfl, ?_⟩)
        | fail)
    · have hq : q.ok := ⟨hl, hn⟩
      have hp : p.ok := ⟨hl2, hm⟩
      have f1 := Kq.same_self q.tidy
      have f2 : (q.checkE == q.checkE) = true := beq_self_eq_true _
      have f3 : decide (q.tidy.l = q.tidy.l) = true := by simp
      have f4 : (q.same p == q.same p) = true := beq_self_eq_true _
      refine enter rfl Try.func11 rfl Try.ntmps11 rfl ?_
      dsimp only [List.cons_append, List.nil_append, List.length_cons, List.length_nil, List.replicate_succ, List.replicate_zero, Nat.reduceAdd, Nat.reduceSub]
      repeat' (first
        | dsimp only [putD, DV.cells, DH.new_next, DH.set_next, List.length_cons, List.length_nil, Nat.reduceAdd, List.set_cons_zero, List.set_cons_succ, getD_zero, getD_succ, fieldAt_zero, fieldAt_succ, thenD, blockD, retR]
        | apply dwp_seq
        | apply dwp_region
        | apply ops_nil
        | (apply ops_plain; (· exact rfl))
        | (apply ops_on; (· exact rfl); (· exact rfl); (· (first | with_reducible assumption | with_reducible rfl | decide)))
        | (apply op_call; (· exact rfl); (· exact rfl); (· exact rfl); refine call_table (g := gLive) rfl rfl ?_)
        | (apply op_call; (· exact rfl); (· exact rfl); (· exact rfl); (apply few_yes (by with_reducible assumption); (· assumption); (· (repeat (first | with_reducible exact InF.here | with_reducible assumption | with_reducible apply InF.there)))))
        | (apply op_call; (· exact rfl); (· exact rfl); (· exact rfl); (apply tidy_b; (· assumption); (· (repeat (first | with_reducible exact InF.here | with_reducible assumption | with_reducible apply InF.there))); (· (repeat (first | assumption | apply Kq.post_ok | apply Kq.rpost_ok | apply Kq.cancel_ok | apply Kq.rcancel_ok | apply Kq.step_ok | apply Kq.rstep_ok | apply Kq.tidy_ok | apply kNew_ok))); intro s1 H1 hB))
        | (apply op_call; (· exact rfl); (· exact rfl); (· exact rfl); (apply rtidy_b; (· assumption); (· (repeat (first | with_reducible exact InF.here | with_reducible assumption | with_reducible apply InF.there))); (· (repeat (first | assumption | apply Kq.post_ok | apply Kq.rpost_ok | apply Kq.cancel_ok | apply Kq.rcancel_ok | apply Kq.step_ok | apply Kq.rstep_ok | apply Kq.tidy_ok | apply kNew_ok))); intro s1 H1 hB))
        | (apply op_pick_f; (· exact rfl); (· exact rfl); (· (first | with_reducible assumption | with_reducible rfl | decide)); (· exact rfl))
        | (apply bx_load0; (· exact rfl); (· exact rfl); (· assumption); (· (repeat (first | with_reducible exact At.here | with_reducible apply At.there))); (· (first | exact part48 _ _ _ _ | exact part26 _ | exact part26' _ _ _ _ _ _ | exact rfl)))
        | (apply bx_store0; (· exact rfl); (· exact rfl); (· exact rfl); (· assumption); (· (first | (dsimp only [putD, DV.cells, DH.new_next, DH.set_next, List.length_cons, List.length_nil, Nat.reduceAdd, List.set_cons_zero, List.set_cons_succ, getD_zero, getD_succ, fieldAt_zero, fieldAt_succ, thenD, blockD, retR, Sv.cells]; done) | (dsimp only [putD, DV.cells, DH.new_next, DH.set_next, List.length_cons, List.length_nil, Nat.reduceAdd, List.set_cons_zero, List.set_cons_succ, getD_zero, getD_succ, fieldAt_zero, fieldAt_succ, thenD, blockD, retR, Sv.cells]; exact rfl) | exact rfl)); (· (repeat (first | with_reducible exact Upd.here | with_reducible apply Upd.there))); (· exact rfl); (· exact rfl); (· exact rfl); (· exact rfl); intro H1 hB)
        | (apply bx_box; (· exact rfl); (· exact rfl); (· (first | (dsimp only [putD, DV.cells, DH.new_next, DH.set_next, List.length_cons, List.length_nil, Nat.reduceAdd, List.set_cons_zero, List.set_cons_succ, getD_zero, getD_succ, fieldAt_zero, fieldAt_succ, thenD, blockD, retR, Sv.cells]; done) | (dsimp only [putD, DV.cells, DH.new_next, DH.set_next, List.length_cons, List.length_nil, Nat.reduceAdd, List.set_cons_zero, List.set_cons_succ, getD_zero, getD_succ, fieldAt_zero, fieldAt_succ, thenD, blockD, retR, Sv.cells]; exact rfl) | exact rfl)); (· exact rfl); (· exact rfl); (· assumption); intro b1 H1 hB)
        | (apply bx_alloc; (· exact rfl); (· exact zero48); (· (first | (dsimp only [putD, DV.cells, DH.new_next, DH.set_next, List.length_cons, List.length_nil, Nat.reduceAdd, List.set_cons_zero, List.set_cons_succ, getD_zero, getD_succ, fieldAt_zero, fieldAt_succ, thenD, blockD, retR, Sv.cells]; done) | (dsimp only [putD, DV.cells, DH.new_next, DH.set_next, List.length_cons, List.length_nil, Nat.reduceAdd, List.set_cons_zero, List.set_cons_succ, getD_zero, getD_succ, fieldAt_zero, fieldAt_succ, thenD, blockD, retR, Sv.cells]; exact rfl) | exact rfl)); (· exact rfl); (· exact rfl); (· assumption); intro b1 H1 hB)
        | (apply op_at; (· exact rfl))
        | (apply op_call; (· exact rfl); (· exact rfl); (· exact rfl); (apply check_b; (· assumption); (· (repeat (first | with_reducible exact InF.here | with_reducible assumption | with_reducible apply InF.there)))); refine ⟨(by (first | exact Above.refl _ | assumption | exact Above.trans (by assumption) (by assumption))), ?_⟩)
        | (apply op_call; (· exact rfl); (· exact rfl); (· exact rfl); (apply rcheck_b; (· assumption); (· (repeat (first | with_reducible exact InF.here | with_reducible assumption | with_reducible apply InF.there)))); refine ⟨(by (first | exact Above.refl _ | assumption | exact Above.trans (by assumption) (by assumption))), ?_⟩)
        | (apply op_call; (· exact rfl); (· exact rfl); (· exact rfl); (apply rsame_b; (· assumption); (· (repeat (first | with_reducible exact InF.here | with_reducible assumption | with_reducible apply InF.there))); (· (repeat (first | with_reducible exact InF.here | with_reducible assumption | with_reducible apply InF.there))); (· (repeat (first | assumption | apply Kq.post_ok | apply Kq.rpost_ok | apply Kq.cancel_ok | apply Kq.rcancel_ok | apply Kq.step_ok | apply Kq.rstep_ok | apply Kq.tidy_ok | apply kNew_ok))); (· (repeat (first | assumption | apply Kq.post_ok | apply Kq.rpost_ok | apply Kq.cancel_ok | apply Kq.rcancel_ok | apply Kq.step_ok | apply Kq.rstep_ok | apply Kq.tidy_ok | apply kNew_ok)))); refine ⟨(by (first | exact Above.refl _ | assumption | exact Above.trans (by assumption) (by assumption))), ?_⟩)
        | (apply op_call; (· exact rfl); (· exact rfl); (· exact rfl); (apply lsame_b; (· assumption); (· (repeat (first | with_reducible exact InF.here | with_reducible assumption | with_reducible apply InF.there))); (· (repeat (first | with_reducible exact InF.here | with_reducible assumption | with_reducible apply InF.there)))); refine ⟨(by (first | exact Above.refl _ | assumption | exact Above.trans (by assumption) (by assumption))), ?_⟩)
        | (apply op_call; (· exact rfl); (· exact rfl); (· exact rfl); (apply psame_b; (· assumption); (· (repeat (first | with_reducible exact InF.here | with_reducible assumption | with_reducible apply InF.there))); (· (repeat (first | with_reducible exact InF.here | with_reducible assumption | with_reducible apply InF.there))); (· (repeat (first | assumption | apply Kq.post_ok | apply Kq.rpost_ok | apply Kq.cancel_ok | apply Kq.rcancel_ok | apply Kq.step_ok | apply Kq.rstep_ok | apply Kq.tidy_ok | apply kNew_ok))); (· (repeat (first | assumption | apply Kq.post_ok | apply Kq.rpost_ok | apply Kq.cancel_ok | apply Kq.rcancel_ok | apply Kq.step_ok | apply Kq.rstep_ok | apply Kq.tidy_ok | apply kNew_ok))); intro H1 hab hB); refine ⟨(by (first | exact Above.refl _ | assumption | exact Above.trans (by assumption) (by assumption))), ?_⟩)
        | refine dwp_drawp _ rfl (fun H' => Above _ H') (Above.refl _) ?_
        | apply drawp_nil
        | (apply drawp_bx_load; (· exact rfl); (· (first | exact wanted_plain rfl | (apply wanted_on; (· exact rfl); (· exact rfl); (· (first | with_reducible assumption | with_reducible rfl | decide))))); (· exact rfl); (· assumption); (· (repeat (first | with_reducible exact At.here | with_reducible apply At.there))); (· exact rfl); (· (first | exact part48 _ _ _ _ | exact part26 _ | exact part26' _ _ _ _ _ _ | exact rfl)); (· decide +kernel))
        | (apply drawp_pick_t; (· (first | exact wanted_plain rfl | (apply wanted_on; (· exact rfl); (· exact rfl); (· (first | with_reducible assumption | with_reducible rfl | decide))))); (· exact rfl); (· exact rfl); (· (first | with_reducible assumption | with_reducible rfl | decide)); (· exact rfl))
        | (apply drawp_pure; (· (first | exact wanted_plain rfl | (apply wanted_on; (· exact rfl); (· exact rfl); (· (first | with_reducible assumption | with_reducible rfl | decide))))); (· exact rfl); (· exact rfl); (· exact opD_eqb rfl rfl rfl rfl))
        | (apply drawp_pure; (· (first | exact wanted_plain rfl | (apply wanted_on; (· exact rfl); (· exact rfl); (· (first | with_reducible assumption | with_reducible rfl | decide))))); (· exact rfl); (· exact rfl); (· exact rfl))
        | (apply drawp_move; (· (first | exact wanted_plain rfl | (apply wanted_on; (· exact rfl); (· exact rfl); (· (first | with_reducible assumption | with_reducible rfl | decide))))); (· exact rfl); (· decide +kernel))
        | (apply dwp_cond_f; (· exact rfl); (· (first | with_reducible assumption | with_reducible rfl | decide)))
        | apply dwp_skip
        | apply dwp_ret
        | (refine ⟨_, rfl, ?_⟩)
        | fail)
      all_goals first | rfl | (exfalso; simp_all; done) | simp_all
theorem row11 (H : DH) (hr : RO H) (hw : WF H) (xs : List DV) (hx : TArgs Try.prog H [48, 48] xs) : ∃ k H', callD Try.prog K5 k 11 xs H = some (.bool true, H') := by
  match xs, hx with
  | [a, b], ⟨h1, h2, _⟩ =>
    obtain ⟨s, q, rfl, hl, _, hn, _⟩ := kq_arg hw h1
    obtain ⟨s2, p, rfl, hl2, _, hm, _⟩ := kq_arg hw h2
    obtain ⟨k, r, H', hk, rfl⟩ := (law11 H s s2 q p hl hl2 hn hm).ex
    exact ⟨k, H', hk⟩
end Go.Det.Q

/- KernelTells answers true, whatever it is handed; nothing is asked of the arguments but their types. -/
namespace Go.Proofs.Ytpgobchpnjgbdaa.kernelTells
open Go Go.Det Go.Det.Q Go.ChangeShapes Go.WideShapes Go.ChangeAt Go.RowKit
set_option linter.unusedVariables false
set_option linter.unusedSimpArgs false
theorem own : ownKnob Try.prog.godebug = none := by kernel_rfl
theorem laidOut : laidOutB Try.prog = true := by kernel_rfl
set_option maxRecDepth 100000 in
theorem lifted (os : Os) (started : os.Started) (H : Type) (enc : TypeId × Value → H) :
    ReturnsInHanded {} Try.checked os 11 .any (Rows.kernelTellsSpec.pre6 enc Try.prog Try.f11 Rows.kernelTellsRow.domain false) (Rows.kernelTellsSpec.post enc Try.prog Try.f11 false true false false) := by
  exact row_law (C := Try.checked) (X := K5) (ts := [48, 48]) (rt := 4) (n := 5) own started (by kernel_rfl) Try.func11
    (ChangeSpec.witness6 (enc := enc) (C := Try.checked) false ⟨#[], #[.agg #[.slice none 0 0, .int .u64 0, .int .i64 0, .int .i64 0], .agg #[.slice none 0 0, .int .u64 0, .int .i64 0, .int .i64 0]], []⟩ 8 (by kernel_rfl) (by kernel_rfl) (by kernel_rfl) (by kernel_rfl))
    rfl okK5 rfl Try.params11 rfl Try.underlying4 (by kernel_rfl) (by kernel_rfl) laidOut rfl
    (by intro ds h; match ds, h with | [_, _], _ => rfl)
    (fun H xs hr hw hx => row11 H hr hw xs hx)
theorem over : Rows.kernelTellsRow.holds Try.pinned (OpenSpec.ofChange Rows.kernelTellsSpec) :=
  OpenClaim.holds_of_wide 11 Try.f11 rfl rfl rfl rfl rfl rfl rfl ⟨rfl, rfl, rfl, rfl, rfl⟩ rfl rfl rfl rfl rfl (by kernel_rfl) Try.func11 (by kernel_rfl)
    (of_decide_eq_true (by kernel_rfl)) (by unfold Func.isWrapper; first | (rw [if_pos (by decide +kernel)]; kernel_rfl) | (rw [if_neg (by decide +kernel)]; exact ⟨rfl, rfl⟩))
    (fun os started H enc _ => lifted os started H enc)
theorem proved : Rows.KernelTellsSaid := over
end Go.Proofs.Ytpgobchpnjgbdaa.kernelTells
namespace Go.Proofs.Ytpgobchpnjgbdaa
/-- The row, under a short name, for the claim. -/
theorem kernelTells_holds : Rows.KernelTellsSaid := kernelTells.proved
#print axioms kernelTells_holds
end Go.Proofs.Ytpgobchpnjgbdaa
