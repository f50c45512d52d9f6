/- Where a byte stands. -/
import Derived.Test.YtlmjhpnmfmnmgaaDoorLexP9
namespace Go.Det.C
open Go Go.Det Go.Proofs
set_option maxRecDepth 4000
set_option maxHeartbeats 4000000
set_option linter.unusedVariables false
set_option linter.unusedSimpArgs false
theorem runeLen58 (c : Int) (H : DH) : CallWp Tryd.prog X3 58 [.int .i32 c] H (fun r H' => r = .int .i64 (runeLenF c) ∧ H' = H) := by
  refine enter rfl Tryd.func58 rfl Tryd.ntmps58 rfl ?_
  dsimp only [List.cons_append, List.nil_append, List.length_cons, List.length_nil, List.replicate_succ, List.replicate_zero, Nat.reduceAdd, Nat.reduceSub]
  repeat' (first
    | dsimp only [putD, DV.cells, DH.new_next, DH.set_next, List.length_cons, List.length_nil, Nat.reduceAdd, List.set_cons_zero, List.set_cons_succ, getD_zero, getD_succ, fieldAt_zero, fieldAt_succ, thenD, blockD, retR]
    | apply dwp_seq
    | apply dwp_region
    | apply ops_nil
    | (apply ops_plain; (· exact rfl))
    | (apply ops_on; (· exact rfl); (· exact rfl); (· (first | with_reducible assumption | with_reducible rfl | decide)))
    | (apply ops_off1; (· exact rfl); (· exact rfl); (· (first | with_reducible assumption | with_reducible rfl | decide)))
    | (apply ops_split1; (· exact rfl); (· exact rfl); all_goals intro hb)
    | (apply op_pick_t; (· exact rfl); (· exact rfl); (· (first | with_reducible assumption | with_reducible rfl | decide)); (· exact rfl))
    | (apply op_pick_f; (· exact rfl); (· exact rfl); (· (first | with_reducible assumption | with_reducible rfl | decide)); (· exact rfl))
    | (apply op_at; (· exact rfl))
    | (apply dwp_cond_f; (· exact rfl); (· (first | with_reducible assumption | with_reducible rfl | decide)))
    | (refine dwp_cond rfl ?_ ?_ <;> intro hb)
    | apply dwp_block
    | apply dwp_skip
    | apply dwp_ret
    | (refine ⟨_, rfl, ?_⟩)
    | fail)
  all_goals refine ⟨congrArg (DV.int .i64) ?_, rfl⟩
  all_goals unfold runeLenF
  all_goals simp only [decide_eq_true_eq, decide_eq_false_iff_not] at *
  all_goals (repeat' split) <;> omega
section
variable {A H : DH} {bs : List (Nat × DObj)} {fs : List (DH → Prop)} {K : DV → DH → Prop}
theorem where26 {s : List UInt8} (k : Nat) (hk : k ≤ s.length) (hs : s.length ≤ 65536) (hB : Bx A H bs fs)
    (hK : ∀ H', Bx A H' bs fs → K (.tuple [.agg [.int .i64 (whereG s (1, 1) k).1, .int .i64 (whereG s (1, 1) k).2], .int .i64 0]) H') :
    CallWp Tryd.prog X3 26 [.str s, .int .i64 (k : Int)] H K := by
  have hc1 : decide ((k : Int) < 0) = false := by simp
  have hc2 : decide ((k : Int) > (s.length : Int)) = false := by simp; omega
  refine enter rfl Tryd.func26 rfl Tryd.ntmps26 rfl ?_
  dsimp only [List.cons_append, List.nil_append, List.length_cons, List.length_nil, List.replicate_succ, List.replicate_zero, Nat.reduceAdd, Nat.reduceSub]
  repeat' (first
    | dsimp only [putD, DV.cells, DH.new_next, DH.set_next, List.length_cons, List.length_nil, Nat.reduceAdd, List.set_cons_zero, List.set_cons_succ, getD_zero, getD_succ, fieldAt_zero, fieldAt_succ, thenD, blockD, retR]
    | apply dwp_seq
    | apply dwp_region
    | apply ops_nil
    | (apply ops_plain; (· exact rfl))
    | (apply ops_on; (· exact rfl); (· exact rfl); (· (first | with_reducible assumption | with_reducible rfl | decide)))
    | (apply op_pick_f; (· exact rfl); (· exact rfl); (· (first | with_reducible assumption | with_reducible rfl | decide)); (· exact rfl))
    | (apply bx_range; (· exact rfl); (· exact rfl); (· exact rfl); (· assumption); intro bi H1 hB)
    | (apply bx_store0; (· exact rfl); (· exact rfl); (· exact rfl); (· assumption); (· (first | (dsimp only [putD, DV.cells, DH.new_next, DH.set_next, List.length_cons, List.length_nil, Nat.reduceAdd, List.set_cons_zero, List.set_cons_succ, getD_zero, getD_succ, fieldAt_zero, fieldAt_succ, thenD, blockD, retR, Sv.cells]; done) | (dsimp only [putD, DV.cells, DH.new_next, DH.set_next, List.length_cons, List.length_nil, Nat.reduceAdd, List.set_cons_zero, List.set_cons_succ, getD_zero, getD_succ, fieldAt_zero, fieldAt_succ, thenD, blockD, retR, Sv.cells]; exact rfl) | exact rfl)); (· (repeat (first | with_reducible exact Upd.here | with_reducible apply Upd.there | with_reducible apply upd_app))); (· exact rfl); (· exact rfl); (· exact rfl); (· exact rfl); intro H1 hB)
    | (apply bx_alloc; (· exact rfl); (· exact zero49); (· (first | (dsimp only [putD, DV.cells, DH.new_next, DH.set_next, List.length_cons, List.length_nil, Nat.reduceAdd, List.set_cons_zero, List.set_cons_succ, getD_zero, getD_succ, fieldAt_zero, fieldAt_succ, thenD, blockD, retR, Sv.cells]; done) | (dsimp only [putD, DV.cells, DH.new_next, DH.set_next, List.length_cons, List.length_nil, Nat.reduceAdd, List.set_cons_zero, List.set_cons_succ, getD_zero, getD_succ, fieldAt_zero, fieldAt_succ, thenD, blockD, retR, Sv.cells]; exact rfl) | exact rfl)); (· exact rfl); (· exact rfl); (· assumption); intro b1 H1 hB)
    | (apply op_at; (· exact rfl))
    | (apply dwp_cond_f; (· exact rfl); (· (first | with_reducible assumption | with_reducible rfl | decide)))
    | apply dwp_block
    | apply dwp_skip
    | fail)
  refine dwp_loop (fun st => ∃ (b4 b6 bi : Nat) (H1 : DH) (pos : Nat) (p : Int × Int), ∃ J : Nat → DV, (Bx A H1 ((bi, .iter s pos) :: (b6, .rows false 2 [[.int .i64 p.1, .int .i64 p.2]]) :: (b4, .rows false 2 [[.int .i64 0, .int .i64 0]]) :: bs) fs ∧ pos ≤ s.length ∧ pos ≤ k ∧ (0 ≤ p.1 ∧ p.1 ≤ pos + 1 ∧ 0 ≤ p.2 ∧ p.2 ≤ pos + 1) ∧ whereG (s.drop pos) p (k - pos) = whereG s (1, 1) k) ∧ st = ⟨(.str s :: .int .i64 (k : Int) :: J 2 :: J 3 :: .ptr (some (b4, 0, 0)) :: .int .i64 0 :: .ptr (some (b6, 0, 0)) :: J 7 :: J 8 :: J 9 :: J 10 :: J 11 :: J 12 :: J 13 :: J 14 :: J 15 :: J 16 :: J 17 :: J 18 :: J 19 :: J 20 :: .ptr (some (bi, 0, 0)) :: J 22 :: J 23 :: J 24 :: J 25 :: J 26 :: J 27 :: J 28 :: J 29 :: J 30 :: J 31 :: J 32 :: J 33 :: J 34 :: J 35 :: J 36 :: J 37 :: J 38 :: J 39 :: J 40 :: J 41 :: J 42 :: J 43 :: J 44 :: J 45 :: J 46 :: []), H1⟩) (fun st => s.length - posOf st 21) (⟨_, _, _, _, 0, (1, 1), junk_facts (⟨hB, Nat.zero_le _, Nat.zero_le _, ⟨by decide, by decide, by decide, by decide⟩, rfl⟩) rfl rfl⟩) ?_
  rintro st ⟨b4, b6, bi, H1, pos, p, J, ⟨hB, hpos, hpk, hpp, hgo⟩, rfl⟩
  have b4' : 0 ≤ p.1 ∧ p.1 ≤ 1000000 := by omega
  have b5' : 0 ≤ p.2 ∧ p.2 ≤ 1000000 := by omega
  by_cases hlt : pos < s.length
  · have hne : s.drop pos ≠ [] := by
      intro h
      have := congrArg List.length h
      rw [List.length_drop] at this
      simp at this
      omega
    obtain ⟨cn, w, hcw⟩ : ∃ cn w, decL (s.drop pos) = (cn, w) := ⟨_, _, rfl⟩
    have hww := decL_width hne
    have hlen := decL_len hne
    rw [hcw, List.length_drop] at hww
    rw [hcw] at hlen
    simp only at hww hlen
    have hdec : Utf8.decode ⟨s.toArray⟩ pos = (cn, w) := by rw [decode_drop s pos hpos, hcw]
    have hin : 0 ≤ (pos : Int) ∧ (pos : Int) ≤ (s.length : Int) := by omega
    have hnx : (pos : Int).toNat = pos := Int.toNat_natCast _
    have hww1 : IntKind.i64.wrap ((pos : Int) + (w : Int)) = ((pos + w : Nat) : Int) := by rw [wrapI (by omega)]; omega
    have hww2 : w = 1 → IntKind.i64.wrap ((pos : Int) + 1) = ((pos + w : Nat) : Int) := by intro h; rw [wrapI (by omega)]; omega
    have hB0 := hB
    have hlo : k - pos < w → whereG s (1, 1) k = p := by
      intro h
      rw [← hgo, whereG_lt hne (by rw [hcw]; exact h)]
    have hhi : ¬ k - pos < w → whereG (s.drop (pos + w)) (nextP p (cn : Int)) (k - (pos + w)) = whereG s (1, 1) k := by
      intro h
      rw [← hgo, whereG_ge hne (by rw [hcw]; exact h), hcw, List.drop_drop, Nat.sub_sub]
    cases hk1 : decide ((k : Int) < ((pos + w : Nat) : Int)) with
    | true =>
      have hw := hlo (by simp at hk1; omega)
      rw [hw] at hK
      cases hF : ((cn : Int) == 65533) with
      | true =>
        have hF' : cn = 65533 := by
          have h : (cn : Int) = 65533 := by simpa using hF
          omega
        cases hP : [239, 191, 189].isPrefixOf (s.drop pos) with
        | true =>
          have hbad : badL (s.drop pos) = false := by unfold badL; rw [hcw, hP]; simp
          rw [hbad, if_neg (by simp)] at hlen
          repeat' (first
            | dsimp only [putD, DV.cells, DH.new_next, DH.set_next, List.length_cons, List.length_nil, Nat.reduceAdd, List.set_cons_zero, List.set_cons_succ, getD_zero, getD_succ, fieldAt_zero, fieldAt_succ, thenD, blockD, retR]
            | (refine ⟨_, resOf_ct (loadD_at rfl (Bx.get (by assumption) (by (repeat (first | with_reducible exact At.here | with_reducible apply At.there | with_reducible apply at_app)))) rfl (by (first | exact part49 _ _ | exact rfl))), ?_⟩)
            | apply dwp_seq
            | apply dwp_region
            | apply ops_nil
            | (apply ops_plain; (· exact rfl))
            | (apply ops_on; (· exact rfl); (· exact rfl); (· (first | with_reducible assumption | with_reducible rfl | decide)))
            | (apply op_call; (· exact rfl); (· exact rfl); (· exact rfl); (refine (CallWp.up up03 (hasPrefix53 _ _ _)).mono ?_; rintro r0 H' ⟨rfl, rfl⟩; rw [hnx, hP]))
            | (apply op_call; (· exact rfl); (· exact rfl); (· exact rfl); (refine (runeLen58 _ _).mono ?_; rintro r0 H' ⟨rfl, rfl⟩; rw [← hlen]))
            | (apply op_pick_t; (· exact rfl); (· exact rfl); (· (first | with_reducible assumption | with_reducible rfl | decide)); (· exact rfl))
            | (apply bx_next (c := cn) (w := w); (· exact rfl); (· exact rfl); (· assumption); (· (repeat (first | with_reducible exact Upd.here | with_reducible apply Upd.there | with_reducible apply upd_app))); (· exact hlt); (· exact hdec); intro H1 hB)
            | (apply op_at; (· exact opD_strDrop rfl rfl rfl rfl hin))
            | (apply op_told; (· exact rfl); (· exact congrArg (DV.int _) hww1))
            | (apply bx_load0; (· exact rfl); (· exact rfl); (· assumption); (· (repeat (first | with_reducible exact At.here | with_reducible apply At.there | with_reducible apply at_app))); (· (first | exact part49 _ _ | exact rfl)))
            | (apply bx_store0; (· exact rfl); (· exact rfl); (· exact rfl); (· assumption); (· (first | (dsimp only [putD, DV.cells, DH.new_next, DH.set_next, List.length_cons, List.length_nil, Nat.reduceAdd, List.set_cons_zero, List.set_cons_succ, getD_zero, getD_succ, fieldAt_zero, fieldAt_succ, thenD, blockD, retR, Sv.cells]; done) | (dsimp only [putD, DV.cells, DH.new_next, DH.set_next, List.length_cons, List.length_nil, Nat.reduceAdd, List.set_cons_zero, List.set_cons_succ, getD_zero, getD_succ, fieldAt_zero, fieldAt_succ, thenD, blockD, retR, Sv.cells]; exact rfl) | exact rfl)); (· (repeat (first | with_reducible exact Upd.here | with_reducible apply Upd.there | with_reducible apply upd_app))); (· exact rfl); (· exact rfl); (· exact rfl); (· exact rfl); intro H1 hB)
            | (apply op_at; (· exact rfl))
            | (apply dwp_cond_t; (· exact rfl); (· (first | with_reducible assumption | with_reducible rfl | decide)))
            | (apply dwp_cond_f; (· exact rfl); (· (first | with_reducible assumption | with_reducible rfl | decide)))
            | apply dwp_block
            | apply dwp_skip
            | apply dwp_ret
            | fail)
          exact hK _ (hB.sub (by (repeat (first | exact List.Sublist.refl _ | exact List.nil_sublist _ | apply List.Sublist.cons_cons | apply List.Sublist.cons | apply List.Sublist.append_left | refine List.Sublist.trans ?_ (List.sublist_append_right _ _)))))
        | false =>
          have hbad : badL (s.drop pos) = true := by unfold badL; rw [hcw, hP]; simpa using hF'
          rw [hbad, if_pos rfl] at hlen
          have hww2 := hww2 (by omega)
          repeat' (first
            | dsimp only [putD, DV.cells, DH.new_next, DH.set_next, List.length_cons, List.length_nil, Nat.reduceAdd, List.set_cons_zero, List.set_cons_succ, getD_zero, getD_succ, fieldAt_zero, fieldAt_succ, thenD, blockD, retR]
            | (refine ⟨_, resOf_ct (loadD_at rfl (Bx.get (by assumption) (by (repeat (first | with_reducible exact At.here | with_reducible apply At.there | with_reducible apply at_app)))) rfl (by (first | exact part49 _ _ | exact rfl))), ?_⟩)
            | apply dwp_seq
            | apply dwp_region
            | apply ops_nil
            | (apply ops_plain; (· exact rfl))
            | (apply ops_on; (· exact rfl); (· exact rfl); (· (first | with_reducible assumption | with_reducible rfl | decide)))
            | (apply op_call; (· exact rfl); (· exact rfl); (· exact rfl); (refine (CallWp.up up03 (hasPrefix53 _ _ _)).mono ?_; rintro r0 H' ⟨rfl, rfl⟩; rw [hnx, hP]))
            | (apply op_call; (· exact rfl); (· exact rfl); (· exact rfl); (refine (runeLen58 _ _).mono ?_; rintro r0 H' ⟨rfl, rfl⟩))
            | (apply op_pick_t; (· exact rfl); (· exact rfl); (· (first | with_reducible assumption | with_reducible rfl | decide)); (· exact rfl))
            | (apply bx_next (c := cn) (w := w); (· exact rfl); (· exact rfl); (· assumption); (· (repeat (first | with_reducible exact Upd.here | with_reducible apply Upd.there | with_reducible apply upd_app))); (· exact hlt); (· exact hdec); intro H1 hB)
            | (apply op_at; (· exact opD_strDrop rfl rfl rfl rfl hin))
            | (apply op_told; (· exact rfl); (· exact congrArg (DV.int _) hww2))
            | (apply bx_load0; (· exact rfl); (· exact rfl); (· assumption); (· (repeat (first | with_reducible exact At.here | with_reducible apply At.there | with_reducible apply at_app))); (· (first | exact part49 _ _ | exact rfl)))
            | (apply bx_store0; (· exact rfl); (· exact rfl); (· exact rfl); (· assumption); (· (first | (dsimp only [putD, DV.cells, DH.new_next, DH.set_next, List.length_cons, List.length_nil, Nat.reduceAdd, List.set_cons_zero, List.set_cons_succ, getD_zero, getD_succ, fieldAt_zero, fieldAt_succ, thenD, blockD, retR, Sv.cells]; done) | (dsimp only [putD, DV.cells, DH.new_next, DH.set_next, List.length_cons, List.length_nil, Nat.reduceAdd, List.set_cons_zero, List.set_cons_succ, getD_zero, getD_succ, fieldAt_zero, fieldAt_succ, thenD, blockD, retR, Sv.cells]; exact rfl) | exact rfl)); (· (repeat (first | with_reducible exact Upd.here | with_reducible apply Upd.there | with_reducible apply upd_app))); (· exact rfl); (· exact rfl); (· exact rfl); (· exact rfl); intro H1 hB)
            | (apply op_at; (· exact rfl))
            | (apply dwp_cond_t; (· exact rfl); (· (first | with_reducible assumption | with_reducible rfl | decide)))
            | apply dwp_block
            | apply dwp_skip
            | apply dwp_ret
            | fail)
          exact hK _ (hB.sub (by (repeat (first | exact List.Sublist.refl _ | exact List.nil_sublist _ | apply List.Sublist.cons_cons | apply List.Sublist.cons | apply List.Sublist.append_left | refine List.Sublist.trans ?_ (List.sublist_append_right _ _)))))
      | false =>
        have hF' : decide (cn = 65533) = false := by
          have h : ¬ (cn : Int) = 65533 := by simpa using hF
          simp; omega
        have hbad : badL (s.drop pos) = false := by unfold badL; rw [hcw]; simp only [hF', Bool.false_and]
        rw [hbad, if_neg (by simp)] at hlen
        repeat' (first
          | dsimp only [putD, DV.cells, DH.new_next, DH.set_next, List.length_cons, List.length_nil, Nat.reduceAdd, List.set_cons_zero, List.set_cons_succ, getD_zero, getD_succ, fieldAt_zero, fieldAt_succ, thenD, blockD, retR]
          | (refine ⟨_, resOf_ct (loadD_at rfl (Bx.get (by assumption) (by (repeat (first | with_reducible exact At.here | with_reducible apply At.there | with_reducible apply at_app)))) rfl (by (first | exact part49 _ _ | exact rfl))), ?_⟩)
          | apply dwp_seq
          | apply dwp_region
          | apply ops_nil
          | (apply ops_plain; (· exact rfl))
          | (apply ops_off1; (· exact rfl); (· exact rfl); (· (first | with_reducible assumption | with_reducible rfl | decide)))
          | (apply op_call; (· exact rfl); (· exact rfl); (· exact rfl); (refine (runeLen58 _ _).mono ?_; rintro r0 H' ⟨rfl, rfl⟩; rw [← hlen]))
          | (apply op_pick_f; (· exact rfl); (· exact rfl); (· (first | with_reducible assumption | with_reducible rfl | decide)); (· exact rfl))
          | (apply bx_next (c := cn) (w := w); (· exact rfl); (· exact rfl); (· assumption); (· (repeat (first | with_reducible exact Upd.here | with_reducible apply Upd.there | with_reducible apply upd_app))); (· exact hlt); (· exact hdec); intro H1 hB)
          | (apply op_told; (· exact rfl); (· exact congrArg (DV.int _) hww1))
          | (apply bx_load0; (· exact rfl); (· exact rfl); (· assumption); (· (repeat (first | with_reducible exact At.here | with_reducible apply At.there | with_reducible apply at_app))); (· (first | exact part49 _ _ | exact rfl)))
          | (apply bx_store0; (· exact rfl); (· exact rfl); (· exact rfl); (· assumption); (· (first | (dsimp only [putD, DV.cells, DH.new_next, DH.set_next, List.length_cons, List.length_nil, Nat.reduceAdd, List.set_cons_zero, List.set_cons_succ, getD_zero, getD_succ, fieldAt_zero, fieldAt_succ, thenD, blockD, retR, Sv.cells]; done) | (dsimp only [putD, DV.cells, DH.new_next, DH.set_next, List.length_cons, List.length_nil, Nat.reduceAdd, List.set_cons_zero, List.set_cons_succ, getD_zero, getD_succ, fieldAt_zero, fieldAt_succ, thenD, blockD, retR, Sv.cells]; exact rfl) | exact rfl)); (· (repeat (first | with_reducible exact Upd.here | with_reducible apply Upd.there | with_reducible apply upd_app))); (· exact rfl); (· exact rfl); (· exact rfl); (· exact rfl); intro H1 hB)
          | (apply op_at; (· exact rfl))
          | (apply dwp_cond_t; (· exact rfl); (· (first | with_reducible assumption | with_reducible rfl | decide)))
          | (apply dwp_cond_f; (· exact rfl); (· (first | with_reducible assumption | with_reducible rfl | decide)))
          | apply dwp_block
          | apply dwp_skip
          | apply dwp_ret
          | fail)
        exact hK _ (hB.sub (by (repeat (first | exact List.Sublist.refl _ | exact List.nil_sublist _ | apply List.Sublist.cons_cons | apply List.Sublist.cons | apply List.Sublist.append_left | refine List.Sublist.trans ?_ (List.sublist_append_right _ _)))))
    | false =>
      have hk2 : ¬ k - pos < w := by simp at hk1; omega
      have hgo' := hhi hk2
      have hk3 : pos + w ≤ k := by simp at hk1; omega
      cases hF : ((cn : Int) == 65533) with
      | true =>
        have hF' : cn = 65533 := by
          have h : (cn : Int) = 65533 := by simpa using hF
          omega
        cases hP : [239, 191, 189].isPrefixOf (s.drop pos) with
        | true =>
          have hbad : badL (s.drop pos) = false := by unfold badL; rw [hcw, hP]; simp
          rw [hbad, if_neg (by simp)] at hlen
          repeat' (first
            | dsimp only [putD, DV.cells, DH.new_next, DH.set_next, List.length_cons, List.length_nil, Nat.reduceAdd, List.set_cons_zero, List.set_cons_succ, getD_zero, getD_succ, fieldAt_zero, fieldAt_succ, thenD, blockD, retR]
            | apply dwp_seq
            | apply dwp_region
            | apply ops_nil
            | (apply ops_plain; (· exact rfl))
            | (apply ops_on; (· exact rfl); (· exact rfl); (· (first | with_reducible assumption | with_reducible rfl | decide)))
            | (apply op_call; (· exact rfl); (· exact rfl); (· exact rfl); (refine (CallWp.up up03 (hasPrefix53 _ _ _)).mono ?_; rintro r0 H' ⟨rfl, rfl⟩; rw [hnx, hP]))
            | (apply op_call; (· exact rfl); (· exact rfl); (· exact rfl); (refine (runeLen58 _ _).mono ?_; rintro r0 H' ⟨rfl, rfl⟩; rw [← hlen]))
            | (apply op_call; (· exact rfl); (· exact rfl); (· exact rfl); (apply next57; (· exact b4'); (· exact b5'); (· assumption); intro H1 hB))
            | (apply op_pick_t; (· exact rfl); (· exact rfl); (· (first | with_reducible assumption | with_reducible rfl | decide)); (· exact rfl))
            | (apply bx_next (c := cn) (w := w); (· exact rfl); (· exact rfl); (· assumption); (· (repeat (first | with_reducible exact Upd.here | with_reducible apply Upd.there | with_reducible apply upd_app))); (· exact hlt); (· exact hdec); intro H1 hB)
            | (apply op_at; (· exact opD_strDrop rfl rfl rfl rfl hin))
            | (apply op_told; (· exact rfl); (· exact congrArg (DV.int _) hww1))
            | (apply bx_load0; (· exact rfl); (· exact rfl); (· assumption); (· (repeat (first | with_reducible exact At.here | with_reducible apply At.there | with_reducible apply at_app))); (· (first | exact part49 _ _ | exact rfl)))
            | (apply bx_store0; (· exact rfl); (· exact rfl); (· exact rfl); (· assumption); (· (first | (dsimp only [putD, DV.cells, DH.new_next, DH.set_next, List.length_cons, List.length_nil, Nat.reduceAdd, List.set_cons_zero, List.set_cons_succ, getD_zero, getD_succ, fieldAt_zero, fieldAt_succ, thenD, blockD, retR, Sv.cells]; done) | (dsimp only [putD, DV.cells, DH.new_next, DH.set_next, List.length_cons, List.length_nil, Nat.reduceAdd, List.set_cons_zero, List.set_cons_succ, getD_zero, getD_succ, fieldAt_zero, fieldAt_succ, thenD, blockD, retR, Sv.cells]; exact rfl) | exact rfl)); (· (repeat (first | with_reducible exact Upd.here | with_reducible apply Upd.there | with_reducible apply upd_app))); (· exact rfl); (· exact rfl); (· exact rfl); (· exact rfl); intro H1 hB)
            | (apply op_at; (· exact rfl))
            | (apply dwp_cond_t; (· exact rfl); (· (first | with_reducible assumption | with_reducible rfl | decide)))
            | (apply dwp_cond_f; (· exact rfl); (· (first | with_reducible assumption | with_reducible rfl | decide)))
            | apply dwp_block
            | apply dwp_skip
            | fail)
          refine ⟨⟨_, _, _, _, pos + w, nextP p (cn : Int), junk_facts ⟨hB, by omega, hk3, by unfold nextP; split <;> (simp only; omega), hgo'⟩ rfl rfl⟩, ?_⟩
          rw [posOf_at rfl (hB.get (by (repeat (first | with_reducible exact At.here | with_reducible apply At.there | with_reducible apply at_app)))), posOf_at rfl (hB0.get (by (repeat (first | with_reducible exact At.here | with_reducible apply At.there | with_reducible apply at_app))))]
          omega
        | false =>
          have hbad : badL (s.drop pos) = true := by unfold badL; rw [hcw, hP]; simpa using hF'
          rw [hbad, if_pos rfl] at hlen
          have hww2 := hww2 (by omega)
          repeat' (first
            | dsimp only [putD, DV.cells, DH.new_next, DH.set_next, List.length_cons, List.length_nil, Nat.reduceAdd, List.set_cons_zero, List.set_cons_succ, getD_zero, getD_succ, fieldAt_zero, fieldAt_succ, thenD, blockD, retR]
            | apply dwp_seq
            | apply dwp_region
            | apply ops_nil
            | (apply ops_plain; (· exact rfl))
            | (apply ops_on; (· exact rfl); (· exact rfl); (· (first | with_reducible assumption | with_reducible rfl | decide)))
            | (apply op_call; (· exact rfl); (· exact rfl); (· exact rfl); (refine (CallWp.up up03 (hasPrefix53 _ _ _)).mono ?_; rintro r0 H' ⟨rfl, rfl⟩; rw [hnx, hP]))
            | (apply op_call; (· exact rfl); (· exact rfl); (· exact rfl); (refine (runeLen58 _ _).mono ?_; rintro r0 H' ⟨rfl, rfl⟩))
            | (apply op_call; (· exact rfl); (· exact rfl); (· exact rfl); (apply next57; (· exact b4'); (· exact b5'); (· assumption); intro H1 hB))
            | (apply op_pick_t; (· exact rfl); (· exact rfl); (· (first | with_reducible assumption | with_reducible rfl | decide)); (· exact rfl))
            | (apply bx_next (c := cn) (w := w); (· exact rfl); (· exact rfl); (· assumption); (· (repeat (first | with_reducible exact Upd.here | with_reducible apply Upd.there | with_reducible apply upd_app))); (· exact hlt); (· exact hdec); intro H1 hB)
            | (apply op_at; (· exact opD_strDrop rfl rfl rfl rfl hin))
            | (apply op_told; (· exact rfl); (· exact congrArg (DV.int _) hww2))
            | (apply bx_load0; (· exact rfl); (· exact rfl); (· assumption); (· (repeat (first | with_reducible exact At.here | with_reducible apply At.there | with_reducible apply at_app))); (· (first | exact part49 _ _ | exact rfl)))
            | (apply bx_store0; (· exact rfl); (· exact rfl); (· exact rfl); (· assumption); (· (first | (dsimp only [putD, DV.cells, DH.new_next, DH.set_next, List.length_cons, List.length_nil, Nat.reduceAdd, List.set_cons_zero, List.set_cons_succ, getD_zero, getD_succ, fieldAt_zero, fieldAt_succ, thenD, blockD, retR, Sv.cells]; done) | (dsimp only [putD, DV.cells, DH.new_next, DH.set_next, List.length_cons, List.length_nil, Nat.reduceAdd, List.set_cons_zero, List.set_cons_succ, getD_zero, getD_succ, fieldAt_zero, fieldAt_succ, thenD, blockD, retR, Sv.cells]; exact rfl) | exact rfl)); (· (repeat (first | with_reducible exact Upd.here | with_reducible apply Upd.there | with_reducible apply upd_app))); (· exact rfl); (· exact rfl); (· exact rfl); (· exact rfl); intro H1 hB)
            | (apply op_at; (· exact rfl))
            | (apply dwp_cond_t; (· exact rfl); (· (first | with_reducible assumption | with_reducible rfl | decide)))
            | (apply dwp_cond_f; (· exact rfl); (· (first | with_reducible assumption | with_reducible rfl | decide)))
            | apply dwp_block
            | apply dwp_skip
            | fail)
          refine ⟨⟨_, _, _, _, pos + w, nextP p (cn : Int), junk_facts ⟨hB, by omega, hk3, by unfold nextP; split <;> (simp only; omega), hgo'⟩ rfl rfl⟩, ?_⟩
          rw [posOf_at rfl (hB.get (by (repeat (first | with_reducible exact At.here | with_reducible apply At.there | with_reducible apply at_app)))), posOf_at rfl (hB0.get (by (repeat (first | with_reducible exact At.here | with_reducible apply At.there | with_reducible apply at_app))))]
          omega
      | false =>
        have hF' : decide (cn = 65533) = false := by
          have h : ¬ (cn : Int) = 65533 := by simpa using hF
          simp; omega
        have hbad : badL (s.drop pos) = false := by unfold badL; rw [hcw]; simp only [hF', Bool.false_and]
        rw [hbad, if_neg (by simp)] at hlen
        repeat' (first
          | dsimp only [putD, DV.cells, DH.new_next, DH.set_next, List.length_cons, List.length_nil, Nat.reduceAdd, List.set_cons_zero, List.set_cons_succ, getD_zero, getD_succ, fieldAt_zero, fieldAt_succ, thenD, blockD, retR]
          | apply dwp_seq
          | apply dwp_region
          | apply ops_nil
          | (apply ops_plain; (· exact rfl))
          | (apply ops_off1; (· exact rfl); (· exact rfl); (· (first | with_reducible assumption | with_reducible rfl | decide)))
          | (apply op_call; (· exact rfl); (· exact rfl); (· exact rfl); (refine (runeLen58 _ _).mono ?_; rintro r0 H' ⟨rfl, rfl⟩; rw [← hlen]))
          | (apply op_call; (· exact rfl); (· exact rfl); (· exact rfl); (apply next57; (· exact b4'); (· exact b5'); (· assumption); intro H1 hB))
          | (apply op_pick_f; (· exact rfl); (· exact rfl); (· (first | with_reducible assumption | with_reducible rfl | decide)); (· exact rfl))
          | (apply bx_next (c := cn) (w := w); (· exact rfl); (· exact rfl); (· assumption); (· (repeat (first | with_reducible exact Upd.here | with_reducible apply Upd.there | with_reducible apply upd_app))); (· exact hlt); (· exact hdec); intro H1 hB)
          | (apply op_told; (· exact rfl); (· exact congrArg (DV.int _) hww1))
          | (apply bx_load0; (· exact rfl); (· exact rfl); (· assumption); (· (repeat (first | with_reducible exact At.here | with_reducible apply At.there | with_reducible apply at_app))); (· (first | exact part49 _ _ | exact rfl)))
          | (apply bx_store0; (· exact rfl); (· exact rfl); (· exact rfl); (· assumption); (· (first | (dsimp only [putD, DV.cells, DH.new_next, DH.set_next, List.length_cons, List.length_nil, Nat.reduceAdd, List.set_cons_zero, List.set_cons_succ, getD_zero, getD_succ, fieldAt_zero, fieldAt_succ, thenD, blockD, retR, Sv.cells]; done) | (dsimp only [putD, DV.cells, DH.new_next, DH.set_next, List.length_cons, List.length_nil, Nat.reduceAdd, List.set_cons_zero, List.set_cons_succ, getD_zero, getD_succ, fieldAt_zero, fieldAt_succ, thenD, blockD, retR, Sv.cells]; exact rfl) | exact rfl)); (· (repeat (first | with_reducible exact Upd.here | with_reducible apply Upd.there | with_reducible apply upd_app))); (· exact rfl); (· exact rfl); (· exact rfl); (· exact rfl); intro H1 hB)
          | (apply op_at; (· exact rfl))
          | (apply dwp_cond_t; (· exact rfl); (· (first | with_reducible assumption | with_reducible rfl | decide)))
          | (apply dwp_cond_f; (· exact rfl); (· (first | with_reducible assumption | with_reducible rfl | decide)))
          | apply dwp_block
          | apply dwp_skip
          | fail)
        refine ⟨⟨_, _, _, _, pos + w, nextP p (cn : Int), junk_facts ⟨hB, by omega, hk3, by unfold nextP; split <;> (simp only; omega), hgo'⟩ rfl rfl⟩, ?_⟩
        rw [posOf_at rfl (hB.get (by (repeat (first | with_reducible exact At.here | with_reducible apply At.there | with_reducible apply at_app)))), posOf_at rfl (hB0.get (by (repeat (first | with_reducible exact At.here | with_reducible apply At.there | with_reducible apply at_app))))]
        omega
  · have hnil : s.drop pos = [] := List.drop_eq_nil_of_le (by omega)
    rw [hnil, whereG_nil] at hgo
    rw [← hgo] at hK
    repeat' (first
      | dsimp only [putD, DV.cells, DH.new_next, DH.set_next, List.length_cons, List.length_nil, Nat.reduceAdd, List.set_cons_zero, List.set_cons_succ, getD_zero, getD_succ, fieldAt_zero, fieldAt_succ, thenD, blockD, retR]
      | (refine ⟨_, resOf_ct (loadD_at rfl (Bx.get (by assumption) (by (repeat (first | with_reducible exact At.here | with_reducible apply At.there | with_reducible apply at_app)))) rfl (by (first | exact part49 _ _ | exact rfl))), ?_⟩)
      | apply dwp_seq
      | apply dwp_region
      | apply ops_nil
      | (apply ops_plain; (· exact rfl))
      | (apply bx_next_end; (· exact rfl); (· exact rfl); (· assumption); (· (repeat (first | with_reducible exact At.here | with_reducible apply At.there | with_reducible apply at_app))); (· exact hlt))
      | (apply bx_load0; (· exact rfl); (· exact rfl); (· assumption); (· (repeat (first | with_reducible exact At.here | with_reducible apply At.there | with_reducible apply at_app))); (· (first | exact part49 _ _ | exact rfl)))
      | (apply bx_store0; (· exact rfl); (· exact rfl); (· exact rfl); (· assumption); (· (first | (dsimp only [putD, DV.cells, DH.new_next, DH.set_next, List.length_cons, List.length_nil, Nat.reduceAdd, List.set_cons_zero, List.set_cons_succ, getD_zero, getD_succ, fieldAt_zero, fieldAt_succ, thenD, blockD, retR, Sv.cells]; done) | (dsimp only [putD, DV.cells, DH.new_next, DH.set_next, List.length_cons, List.length_nil, Nat.reduceAdd, List.set_cons_zero, List.set_cons_succ, getD_zero, getD_succ, fieldAt_zero, fieldAt_succ, thenD, blockD, retR, Sv.cells]; exact rfl) | exact rfl)); (· (repeat (first | with_reducible exact Upd.here | with_reducible apply Upd.there | with_reducible apply upd_app))); (· exact rfl); (· exact rfl); (· exact rfl); (· exact rfl); intro H1 hB)
      | (apply op_at; (· exact rfl))
      | (apply dwp_cond_f; (· exact rfl); (· (first | with_reducible assumption | with_reducible rfl | decide)))
      | apply dwp_ret
      | apply dwp_exit
      | fail)
    exact hK _ (hB.sub (by (repeat (first | exact List.Sublist.refl _ | exact List.nil_sublist _ | apply List.Sublist.cons_cons | apply List.Sublist.cons | apply List.Sublist.append_left | refine List.Sublist.trans ?_ (List.sublist_append_right _ _)))))
end
end Go.Det.C

/- LexPlaces. -/
namespace Go.Det.C
open Go Go.Det Go.Proofs
set_option maxRecDepth 4000
set_option maxHeartbeats 4000000
set_option linter.unusedVariables false
set_option linter.unusedSimpArgs false
theorem opD_strMid {P : Program} {cf : CallF} {o : Oper} {env : List DV} {H : DH} {t : TypeId} {x lo hi : Operand} {s v : List UInt8} {j j' : IntKind} {m n : Int} (ho : o.op = .slice t x (some lo) (some hi) none) (hx : evalO env x = some (.str s)) (hlo : evalO env lo = some (.int j m)) (hhi : evalO env hi = some (.int j' n)) (hu : P.underlying t = some .string)
    (hm : 0 ≤ m ∧ m ≤ n ∧ n ≤ (s.length : Int)) (hv : (s.drop m.toNat).take (n.toNat - m.toNat) = v) : opD P cf o env H = some (.str v, H) := by
  have hb : boundsD s.length s.length (some (.int j m)) (some (.int j' n)) none = some (m.toNat, n.toNat, s.length) := by
    show (match boundD s.length (.int j' n) with | none => none | some h => (match boundD h (.int j m) with | none => none | some l => some (l, h, s.length))) = _
    rw [bound_of ⟨by omega, hm.2.2⟩]
    show (match boundD n.toNat (.int j m) with | none => none | some l => some (l, n.toNat, s.length)) = _
    rw [bound_of ⟨hm.1, by omega⟩]
  simp only [opD, ho, mover, reader, pureD, hx, hlo, hhi, evOpt, Option.map_some, sliceD, hu, hb, hv]
  rfl
theorem eqPlace (x y : Int × Int) : eqD Tryd.prog 49 (.agg (placeRow x)) (.agg (placeRow y)) = some (decide (x = y)) := by
  have h : eqD Tryd.prog 49 (.agg (placeRow x)) (.agg (placeRow y)) = andO (x.1 == y.1) (andO (x.2 == y.2) (some true)) := by kernel_rfl
  rw [h]
  simp only [andO_some]
  refine congrArg some ?_
  rw [Bool.eq_iff_iff]
  cases x; cases y
  simp
theorem partPlace (x : Int × Int) : partD Tryd.prog 49 (placeRow x) 0 = some (.agg (placeRow x)) := rfl
theorem partTokS (x : Tok) : partD Tryd.prog 9 x.row 1 = some (.str x.s) := rfl
/-- A slice of one's own that is not empty leads to a box. -/
theorem own_at {z : Nat} {R : List (List DV)} {s : Sv} {bx : List (Nat × DObj)} (h : Own1 z R s.dv bx) {k : Nat} {r : List DV} (hk : R[k]? = some r) : ∃ b c ex rs, s = ⟨some (b, 0, z), R.length, c, ex⟩ ∧ bx = [(b, .rows false z rs)] ∧ rs[0 + k]? = some r := by
  obtain ⟨p, n, c, ex⟩ := s
  unfold Sv.dv at h
  dsimp only at h ⊢
  generalize hd : DV.sl p n c ex = d at h
  cases h with
  | nil h => subst h; simp at hk
  | @«at» b c' ex' rs h1 h2 h3 =>
    cases hd
    refine ⟨_, _, _, _, rfl, rfl, ?_⟩
    rw [Nat.zero_add]
    have hlt := (List.getElem?_eq_some_iff.mp hk).1
    rw [← h3, List.getElem?_take, if_pos hlt] at hk
    exact hk
theorem places7 (s : List UInt8) {A H : DH} (hB : Bx A H [] []) : CallWp Tryd.prog X3 7 [.str s] H (fun r _ => r = .bool true) := by
  cases hfs : few s.length with
  | false =>
    refine enter rfl Tryd.func7 rfl Tryd.ntmps7 rfl ?_
    dsimp only [List.cons_append, List.nil_append, List.length_cons, List.length_nil, List.replicate_succ, List.replicate_zero, Nat.reduceAdd, Nat.reduceSub]
    repeat' (first
      | dsimp only [putD, DV.cells, DH.new_next, DH.set_next, List.length_cons, List.length_nil, Nat.reduceAdd, List.set_cons_zero, List.set_cons_succ, getD_zero, getD_succ, fieldAt_zero, fieldAt_succ, thenD, blockD, retR]
      | apply dwp_seq
      | apply dwp_region
      | apply ops_nil
      | (apply ops_plain; (· exact rfl))
      | (apply ops_off0; (· exact rfl); (· exact rfl); (· (first | with_reducible assumption | with_reducible rfl | decide)))
      | (apply op_call; (· exact rfl); (· exact rfl); (· exact rfl); refine call_table (g := gLive) rfl rfl ?_)
      | (apply op_call; (· exact rfl); (· exact rfl); (· exact rfl); (refine (few23 _ _).mono ?_; rintro r0 H' ⟨rfl, rfl⟩; rw [hfs]))
      | (apply op_pick_t; (· exact rfl); (· exact rfl); (· (first | with_reducible assumption | with_reducible rfl | decide)); (· exact rfl))
      | (apply op_at; (· exact rfl))
      | (apply dwp_cond_t; (· exact rfl); (· (first | with_reducible assumption | with_reducible rfl | decide)))
      | apply dwp_ret
      | (refine ⟨_, rfl, ?_⟩)
      | fail)
  | true =>
    cases hbig : decide ((s.length : Int) > 3000) with
    | true =>
      refine enter rfl Tryd.func7 rfl Tryd.ntmps7 rfl ?_
      dsimp only [List.cons_append, List.nil_append, List.length_cons, List.length_nil, List.replicate_succ, List.replicate_zero, Nat.reduceAdd, Nat.reduceSub]
      repeat' (first
        | dsimp only [putD, DV.cells, DH.new_next, DH.set_next, List.length_cons, List.length_nil, Nat.reduceAdd, List.set_cons_zero, List.set_cons_succ, getD_zero, getD_succ, fieldAt_zero, fieldAt_succ, thenD, blockD, retR]
        | apply dwp_seq
        | apply dwp_region
        | apply ops_nil
        | (apply ops_plain; (· exact rfl))
        | (apply ops_on; (· exact rfl); (· exact rfl); (· (first | with_reducible assumption | with_reducible rfl | decide)))
        | (apply op_call; (· exact rfl); (· exact rfl); (· exact rfl); refine call_table (g := gLive) rfl rfl ?_)
        | (apply op_call; (· exact rfl); (· exact rfl); (· exact rfl); (refine (few23 _ _).mono ?_; rintro r0 H' ⟨rfl, rfl⟩; rw [hfs]))
        | (apply op_pick_f; (· exact rfl); (· exact rfl); (· (first | with_reducible assumption | with_reducible rfl | decide)); (· exact rfl))
        | (apply op_at; (· exact rfl))
        | (apply dwp_cond_t; (· exact rfl); (· (first | with_reducible assumption | with_reducible rfl | decide)))
        | apply dwp_ret
        | (refine ⟨_, rfl, ?_⟩)
        | fail)
    | false =>
      have hs : s.length ≤ 65536 := by simp at hbig; omega
      by_cases he : (cutF s).e = 0
      · obtain ⟨ts, et, ep, hg0⟩ := cut_good he
        have hlt1 : ts.length ≤ 1000000 := by
          have k1 := goR_len (runes s) cu0 (1, 1)
          have k2 := runes_len _ s (Nat.le_refl _)
          have k3 : cu0.toks.length = 0 := rfl
          have k4 : (goR (runes s) cu0 (1, 1)).toks.length = ts.length := by show (cutF s).toks.length = _; rw [et, List.length_map]
          simp at hbig
          omega
        refine enter rfl Tryd.func7 rfl Tryd.ntmps7 rfl ?_
        dsimp only [List.cons_append, List.nil_append, List.length_cons, List.length_nil, List.replicate_succ, List.replicate_zero, Nat.reduceAdd, Nat.reduceSub]
        repeat' (first
          | dsimp only [putD, DV.cells, DH.new_next, DH.set_next, List.length_cons, List.length_nil, Nat.reduceAdd, List.set_cons_zero, List.set_cons_succ, getD_zero, getD_succ, fieldAt_zero, fieldAt_succ, thenD, blockD, retR]
          | apply dwp_seq
          | apply dwp_region
          | apply ops_nil
          | (apply ops_plain; (· exact rfl))
          | (apply ops_on; (· exact rfl); (· exact rfl); (· (first | with_reducible assumption | with_reducible rfl | decide)))
          | (apply op_call; (· exact rfl); (· exact rfl); (· exact rfl); refine call_table (g := gLive) rfl rfl ?_)
          | (apply op_call; (· exact rfl); (· exact rfl); (· exact rfl); (refine (few23 _ _).mono ?_; rintro r0 H' ⟨rfl, rfl⟩; rw [hfs]))
          | (apply op_call; (· exact rfl); (· exact rfl); (· exact rfl); (apply cut_ok (s := s); (· exact hs); (· exact he); (· assumption); intro s1 s2 x1 x2 H1 o1 o2 hB; rw [et] at o1; rw [ep] at o2; have hn1 : s1.n = ts.length := by { rw [own_len o1, List.length_map, List.length_map] }; have hn2 : s2.n = ts.length := by { rw [own_len o2, List.length_map, List.length_map] }; have hne : ((s2.n : Int) != (s1.n : Int)) = false := by { rw [hn1, hn2]; simp }))
          | (apply op_pick_f; (· exact rfl); (· exact rfl); (· (first | with_reducible assumption | with_reducible rfl | decide)); (· exact rfl))
          | (apply bx_store0; (· exact rfl); (· exact rfl); (· exact rfl); (· assumption); (· (first | (dsimp only [putD, DV.cells, DH.new_next, DH.set_next, List.length_cons, List.length_nil, Nat.reduceAdd, List.set_cons_zero, List.set_cons_succ, getD_zero, getD_succ, fieldAt_zero, fieldAt_succ, thenD, blockD, retR, Sv.cells]; done) | (dsimp only [putD, DV.cells, DH.new_next, DH.set_next, List.length_cons, List.length_nil, Nat.reduceAdd, List.set_cons_zero, List.set_cons_succ, getD_zero, getD_succ, fieldAt_zero, fieldAt_succ, thenD, blockD, retR, Sv.cells]; exact rfl) | exact rfl)); (· (repeat (first | with_reducible exact Upd.here | with_reducible apply Upd.there | with_reducible apply upd_app))); (· exact rfl); (· exact rfl); (· exact rfl); (· exact rfl); intro H1 hB)
          | (apply bx_alloc; (· exact rfl); (· exact zero49); (· (first | (dsimp only [putD, DV.cells, DH.new_next, DH.set_next, List.length_cons, List.length_nil, Nat.reduceAdd, List.set_cons_zero, List.set_cons_succ, getD_zero, getD_succ, fieldAt_zero, fieldAt_succ, thenD, blockD, retR, Sv.cells]; done) | (dsimp only [putD, DV.cells, DH.new_next, DH.set_next, List.length_cons, List.length_nil, Nat.reduceAdd, List.set_cons_zero, List.set_cons_succ, getD_zero, getD_succ, fieldAt_zero, fieldAt_succ, thenD, blockD, retR, Sv.cells]; exact rfl) | exact rfl)); (· exact rfl); (· exact rfl); (· assumption); intro b1 H1 hB)
          | (apply op_at; (· exact rfl))
          | (apply dwp_cond_f; (· exact rfl); (· (first | with_reducible assumption | with_reducible rfl | decide)))
          | apply dwp_block
          | apply dwp_skip
          | fail)
        refine dwp_loop (fun st => ∃ (b6 : Nat) (H1 : DH) (k at' : Nat), ∃ J : Nat → DV, (Bx A H1 (x1 ++ (x2 ++ [])) [] ∧ at' ≤ s.length ∧ k ≤ ts.length ∧ Good s at' (ts.drop k)) ∧ st = ⟨(.str s :: J 1 :: .bool false :: .bool true :: s1.dv :: s2.dv :: .ptr (some (b6, 0, 0)) :: .int .i64 0 :: .int .i64 (k : Int) :: .int .i64 (at' : Int) :: J 10 :: J 11 :: J 12 :: J 13 :: J 14 :: J 15 :: J 16 :: J 17 :: J 18 :: J 19 :: J 20 :: J 21 :: J 22 :: J 23 :: J 24 :: J 25 :: J 26 :: J 27 :: J 28 :: J 29 :: J 30 :: J 31 :: J 32 :: J 33 :: J 34 :: J 35 :: J 36 :: J 37 :: J 38 :: J 39 :: J 40 :: J 41 :: J 42 :: J 43 :: J 44 :: J 45 :: J 46 :: J 47 :: J 48 :: J 49 :: J 50 :: J 51 :: J 52 :: J 53 :: J 54 :: J 55 :: J 56 :: J 57 :: J 58 :: J 59 :: J 60 :: J 61 :: J 62 :: J 63 :: J 64 :: J 65 :: J 66 :: J 67 :: J 68 :: J 69 :: J 70 :: J 71 :: J 72 :: J 73 :: J 74 :: J 75 :: J 76 :: J 77 :: J 78 :: J 79 :: J 80 :: J 81 :: J 82 :: J 83 :: J 84 :: J 85 :: J 86 :: J 87 :: J 88 :: J 89 :: J 90 :: J 91 :: J 92 :: J 93 :: J 94 :: J 95 :: J 96 :: J 97 :: J 98 :: J 99 :: J 100 :: J 101 :: J 102 :: J 103 :: J 104 :: J 105 :: J 106 :: J 107 :: J 108 :: J 109 :: J 110 :: J 111 :: J 112 :: J 113 :: J 114 :: J 115 :: J 116 :: J 117 :: J 118 :: J 119 :: J 120 :: J 121 :: J 122 :: J 123 :: J 124 :: J 125 :: J 126 :: []), H1⟩) (fun st => s.length - kOf st 9) (⟨_, _, 0, 0, junk_facts (⟨(hB.sub (by (repeat (first | exact List.Sublist.refl _ | exact List.nil_sublist _ | apply List.Sublist.cons_cons | apply List.Sublist.cons | apply List.Sublist.append_left | refine List.Sublist.trans ?_ (List.sublist_append_right _ _))))), Nat.zero_le _, Nat.zero_le _, hg0⟩) rfl rfl⟩) ?_
        rintro st ⟨b6, H1, k, at', J, ⟨hB, hat, hk, hg⟩, rfl⟩
        by_cases hlt : at' < s.length
        · have hc1 : decide ((at' : Int) < (s.length : Int)) = true := by simp [hlt]
          by_cases hkl : k < ts.length
          · have hc2 : decide ((k : Int) < (s1.n : Int)) = true := by rw [hn1]; simp [hkl]
            have hdk := List.drop_eq_getElem_cons hkl
            obtain ⟨x, hx⟩ : ∃ x, ts[k] = x := ⟨_, rfl⟩
            obtain ⟨us, hus⟩ : ∃ us, ts.drop (k + 1) = us := ⟨_, rfl⟩
            have hxk : ts[k]? = some x := by rw [List.getElem?_eq_getElem hkl, hx]
            obtain ⟨bt, ct, et', rt, e1, e2, hr1⟩ := own_at o1 (k := k) (r := x.1.row) (by rw [List.getElem?_map, List.getElem?_map, hxk]; rfl)
            obtain ⟨bp, cp, ep', rp, e3, e4, hr2⟩ := own_at o2 (k := k) (r := placeRow x.2) (by rw [List.getElem?_map, List.getElem?_map, hxk]; rfl)
            subst e1 e2 e3 e4
            dsimp only [List.cons_append, List.nil_append] at hB hn1 hn2 hc2
            rw [← Int.toNat_natCast k] at hr1 hr2
            have hin1 : 0 ≤ (k : Int) ∧ (k : Int) < ((((ts.map (·.1)).map Tok.row).length : Nat) : Int) := by rw [List.length_map, List.length_map]; omega
            have hin2 : 0 ≤ (k : Int) ∧ (k : Int) < ((((ts.map (·.2)).map placeRow).length : Nat) : Int) := by rw [List.length_map, List.length_map]; omega
            obtain ⟨wp, hwp⟩ : ∃ wp, whereG s (1, 1) at' = wp := ⟨_, rfl⟩
            have hwk : IntKind.i64.wrap ((k : Int) + 1) = ((k + 1 : Nat) : Int) := by rw [wrapI (by omega)]; rfl
            rw [hdk, hx, hus] at hg
            rcases (by cases hg with
              | skip h1 h2 h3 => exact .inl ⟨h2, h3⟩
              | tok h1 h2 h3 h4 h5 h6 => exact .inr ⟨h2, h3, h4, h5, h6⟩ : (whereG s (1, 1) at' ≠ x.2 ∧ Good s (at' + 1) (x :: us)) ∨ (whereG s (1, 1) at' = x.2 ∧ x.1.s ≠ [] ∧ at' + x.1.s.length ≤ s.length ∧ (s.drop at').take x.1.s.length = x.1.s ∧ Good s (at' + x.1.s.length) us)) with ⟨h2, h3⟩ | ⟨h2, h3, h4, h5, h6⟩
            · rw [hwp] at h2
              have h70 : (!decide (wp = x.2)) = true := by simp [h2]
              have hw1 : IntKind.i64.wrap ((at' : Int) + 1) = ((at' + 1 : Nat) : Int) := by rw [wrapI (by omega)]; rfl
              repeat' (first
                | dsimp only [putD, DV.cells, DH.new_next, DH.set_next, List.length_cons, List.length_nil, Nat.reduceAdd, List.set_cons_zero, List.set_cons_succ, getD_zero, getD_succ, fieldAt_zero, fieldAt_succ, thenD, blockD, retR]
                | (apply drawc_pure; (· (first | exact wanted_plain rfl | (apply wanted_on; (· exact rfl); (· exact rfl); (· (first | with_reducible assumption | with_reducible rfl | decide))))); (· exact rfl); (· exact rfl); (· exact opD_index rfl rfl rfl rfl rfl hin2))
                | (apply drawc_bx_load; (· exact rfl); (· (first | exact wanted_plain rfl | (apply wanted_on; (· exact rfl); (· exact rfl); (· (first | with_reducible assumption | with_reducible rfl | decide))))); (· exact rfl); (· assumption); (· (repeat (first | with_reducible exact At.here | with_reducible apply At.there | with_reducible apply at_app))); (· exact hr2); (· exact partPlace x.2); (· decide +kernel))
                | (apply drawc_pure; (· (first | exact wanted_plain rfl | (apply wanted_on; (· exact rfl); (· exact rfl); (· (first | with_reducible assumption | with_reducible rfl | decide))))); (· exact rfl); (· exact rfl); (· exact opD_neql rfl rfl rfl (eqPlace wp x.2)))
                | apply dwp_seq
                | apply dwp_region
                | apply ops_nil
                | (apply ops_plain; (· exact rfl))
                | (apply ops_on; (· exact rfl); (· exact rfl); (· (first | with_reducible assumption | with_reducible rfl | decide)))
                | (apply op_call; (· exact rfl); (· exact rfl); (· exact rfl); (apply where26 at'; (· exact hat); (· exact hs); (· assumption); intro H1 hB; rw [hwp]))
                | (apply op_pick_t; (· exact rfl); (· exact rfl); (· (first | with_reducible assumption | with_reducible rfl | decide)); (· exact rfl))
                | (apply op_told; (· exact rfl); (· exact congrArg (DV.int _) hw1))
                | (apply bx_store0; (· exact rfl); (· exact rfl); (· exact rfl); (· assumption); (· (first | (dsimp only [putD, DV.cells, DH.new_next, DH.set_next, List.length_cons, List.length_nil, Nat.reduceAdd, List.set_cons_zero, List.set_cons_succ, getD_zero, getD_succ, fieldAt_zero, fieldAt_succ, thenD, blockD, retR, Sv.cells]; done) | (dsimp only [putD, DV.cells, DH.new_next, DH.set_next, List.length_cons, List.length_nil, Nat.reduceAdd, List.set_cons_zero, List.set_cons_succ, getD_zero, getD_succ, fieldAt_zero, fieldAt_succ, thenD, blockD, retR, Sv.cells]; exact rfl) | exact rfl)); (· (repeat (first | with_reducible exact Upd.here | with_reducible apply Upd.there | with_reducible apply upd_app))); (· exact rfl); (· exact rfl); (· exact rfl); (· exact rfl); intro H1 hB)
                | (apply bx_alloc; (· exact rfl); (· exact zero49); (· (first | (dsimp only [putD, DV.cells, DH.new_next, DH.set_next, List.length_cons, List.length_nil, Nat.reduceAdd, List.set_cons_zero, List.set_cons_succ, getD_zero, getD_succ, fieldAt_zero, fieldAt_succ, thenD, blockD, retR, Sv.cells]; done) | (dsimp only [putD, DV.cells, DH.new_next, DH.set_next, List.length_cons, List.length_nil, Nat.reduceAdd, List.set_cons_zero, List.set_cons_succ, getD_zero, getD_succ, fieldAt_zero, fieldAt_succ, thenD, blockD, retR, Sv.cells]; exact rfl) | exact rfl)); (· exact rfl); (· exact rfl); (· assumption); intro b1 H1 hB)
                | (apply op_at; (· exact rfl))
                | refine dwp_drawc _ rfl ?_
                | apply drawc_nil
                | (apply drawc_bx_load; (· exact rfl); (· (first | exact wanted_plain rfl | (apply wanted_on; (· exact rfl); (· exact rfl); (· (first | with_reducible assumption | with_reducible rfl | decide))))); (· exact rfl); (· assumption); (· (repeat (first | with_reducible exact At.here | with_reducible apply At.there | with_reducible apply at_app))); (· exact rfl); (· (first | exact part57 _ _ _ _ | exact part49 _ _ | exact rfl)); (· decide +kernel))
                | (apply drawc_pure; (· (first | exact wanted_plain rfl | (apply wanted_on; (· exact rfl); (· exact rfl); (· (first | with_reducible assumption | with_reducible rfl | decide))))); (· exact rfl); (· exact rfl); (· exact rfl))
                | (apply dwp_cond_t; (· exact rfl); (· (first | with_reducible assumption | with_reducible rfl | decide)))
                | (apply dwp_cond_f; (· exact rfl); (· (first | with_reducible assumption | with_reducible rfl | decide)))
                | apply dwp_block
                | apply dwp_skip
                | apply dwp_exit
                | fail)
              refine ⟨⟨_, _, k, at' + 1, junk_facts ⟨(hB.sub (by (repeat (first | exact List.Sublist.refl _ | exact List.nil_sublist _ | apply List.Sublist.cons_cons | apply List.Sublist.cons | apply List.Sublist.append_left | refine List.Sublist.trans ?_ (List.sublist_append_right _ _))))), by omega, hk, by rw [hdk, hx, hus]; exact h3⟩ rfl rfl⟩, ?_⟩
              show s.length - ((at' + 1 : Nat) : Int).toNat < s.length - (at' : Int).toNat
              omega
            · rw [hwp] at h2
              have h70 : (!decide (wp = x.2)) = false := by simp [h2]
              have hls : 0 < x.1.s.length := List.length_pos_iff.mpr h3
              have h81 : decide (IntKind.i64.wrap ((s.length : Int) - (at' : Int)) < (x.1.s.length : Int)) = false := by rw [wrapI (by omega)]; simp; omega
              have h88 : (x.1.s == []) = false := by simpa using h3
              have h107 : (!(x.1.s == x.1.s)) = false := by simp
              have h100 : IntKind.i64.wrap ((at' : Int) + (x.1.s.length : Int)) = (at' : Int) + (x.1.s.length : Int) := wrapI (by omega)
              have hmid : 0 ≤ (at' : Int) ∧ (at' : Int) ≤ IntKind.i64.wrap ((at' : Int) + (x.1.s.length : Int)) ∧ IntKind.i64.wrap ((at' : Int) + (x.1.s.length : Int)) ≤ (s.length : Int) := by rw [h100]; omega
              have hcut : (s.drop ((at' : Int)).toNat).take ((IntKind.i64.wrap ((at' : Int) + (x.1.s.length : Int))).toNat - ((at' : Int)).toNat) = x.1.s := by
                rw [h100, Int.toNat_natCast, show ((at' : Int) + (x.1.s.length : Int)).toNat - at' = x.1.s.length by omega]
                exact h5
              have hw1 : IntKind.i64.wrap ((x.1.s.length : Int) - 1) = (x.1.s.length : Int) - 1 := wrapI (by omega)
              have hw2 : IntKind.i64.wrap ((at' : Int) + ((x.1.s.length : Int) - 1)) = (at' : Int) + ((x.1.s.length : Int) - 1) := wrapI (by omega)
              have hw3 : IntKind.i64.wrap ((at' : Int) + ((x.1.s.length : Int) - 1) + 1) = ((at' + x.1.s.length : Nat) : Int) := by rw [wrapI (by omega)]; omega
              repeat' (first
                | dsimp only [putD, DV.cells, DH.new_next, DH.set_next, List.length_cons, List.length_nil, Nat.reduceAdd, List.set_cons_zero, List.set_cons_succ, getD_zero, getD_succ, fieldAt_zero, fieldAt_succ, thenD, blockD, retR]
                | (apply drawc_pure; (· (first | exact wanted_plain rfl | (apply wanted_on; (· exact rfl); (· exact rfl); (· (first | with_reducible assumption | with_reducible rfl | decide))))); (· exact rfl); (· exact rfl); (· exact opD_index rfl rfl rfl rfl rfl hin1))
                | (apply drawc_pure; (· (first | exact wanted_plain rfl | (apply wanted_on; (· exact rfl); (· exact rfl); (· (first | with_reducible assumption | with_reducible rfl | decide))))); (· exact rfl); (· exact rfl); (· exact opD_index rfl rfl rfl rfl rfl hin2))
                | (apply drawc_bx_load; (· exact rfl); (· (first | exact wanted_plain rfl | (apply wanted_on; (· exact rfl); (· exact rfl); (· (first | with_reducible assumption | with_reducible rfl | decide))))); (· exact rfl); (· assumption); (· (repeat (first | with_reducible exact At.here | with_reducible apply At.there | with_reducible apply at_app))); (· exact hr1); (· exact partTokS x.1); (· decide +kernel))
                | (apply drawc_bx_load; (· exact rfl); (· (first | exact wanted_plain rfl | (apply wanted_on; (· exact rfl); (· exact rfl); (· (first | with_reducible assumption | with_reducible rfl | decide))))); (· exact rfl); (· assumption); (· (repeat (first | with_reducible exact At.here | with_reducible apply At.there | with_reducible apply at_app))); (· exact hr2); (· exact partPlace x.2); (· decide +kernel))
                | (apply drawc_pure; (· (first | exact wanted_plain rfl | (apply wanted_on; (· exact rfl); (· exact rfl); (· (first | with_reducible assumption | with_reducible rfl | decide))))); (· exact rfl); (· exact rfl); (· exact opD_neql rfl rfl rfl (eqPlace wp x.2)))
                | (apply drawc_pure; (· (first | exact wanted_plain rfl | (apply wanted_on; (· exact rfl); (· exact rfl); (· (first | with_reducible assumption | with_reducible rfl | decide))))); (· exact rfl); (· exact rfl); (· exact opD_strMid rfl rfl rfl rfl rfl hmid hcut))
                | apply dwp_seq
                | apply dwp_region
                | apply ops_nil
                | (apply ops_plain; (· exact rfl))
                | (apply ops_on; (· exact rfl); (· exact rfl); (· (first | with_reducible assumption | with_reducible rfl | decide)))
                | (apply op_call; (· exact rfl); (· exact rfl); (· exact rfl); (apply where26 at'; (· exact hat); (· exact hs); (· assumption); intro H1 hB; rw [hwp]))
                | (apply op_pick_t; (· exact rfl); (· exact rfl); (· (first | with_reducible assumption | with_reducible rfl | decide)); (· exact rfl))
                | (apply op_index_at; (· exact rfl); (· exact rfl); (· exact rfl); (· with_reducible exact hin1); (· exact rfl); (· exact rfl))
                | (apply bx_load; (· exact rfl); (· exact rfl); (· assumption); (· (repeat (first | with_reducible exact At.here | with_reducible apply At.there | with_reducible apply at_app))); (· exact hr1); (· exact partTokS x.1))
                | (apply op_told; (· exact rfl); (· exact congrArg (DV.int _) hw1))
                | (apply op_told; (· exact rfl); (· exact congrArg (DV.int _) hw2))
                | (apply op_told; (· exact rfl); (· exact congrArg (DV.int _) hw3))
                | (apply op_told; (· exact rfl); (· exact congrArg (DV.int _) hwk))
                | (apply bx_store0; (· exact rfl); (· exact rfl); (· exact rfl); (· assumption); (· (first | (dsimp only [putD, DV.cells, DH.new_next, DH.set_next, List.length_cons, List.length_nil, Nat.reduceAdd, List.set_cons_zero, List.set_cons_succ, getD_zero, getD_succ, fieldAt_zero, fieldAt_succ, thenD, blockD, retR, Sv.cells]; done) | (dsimp only [putD, DV.cells, DH.new_next, DH.set_next, List.length_cons, List.length_nil, Nat.reduceAdd, List.set_cons_zero, List.set_cons_succ, getD_zero, getD_succ, fieldAt_zero, fieldAt_succ, thenD, blockD, retR, Sv.cells]; exact rfl) | exact rfl)); (· (repeat (first | with_reducible exact Upd.here | with_reducible apply Upd.there | with_reducible apply upd_app))); (· exact rfl); (· exact rfl); (· exact rfl); (· exact rfl); intro H1 hB)
                | (apply bx_alloc; (· exact rfl); (· exact zero49); (· (first | (dsimp only [putD, DV.cells, DH.new_next, DH.set_next, List.length_cons, List.length_nil, Nat.reduceAdd, List.set_cons_zero, List.set_cons_succ, getD_zero, getD_succ, fieldAt_zero, fieldAt_succ, thenD, blockD, retR, Sv.cells]; done) | (dsimp only [putD, DV.cells, DH.new_next, DH.set_next, List.length_cons, List.length_nil, Nat.reduceAdd, List.set_cons_zero, List.set_cons_succ, getD_zero, getD_succ, fieldAt_zero, fieldAt_succ, thenD, blockD, retR, Sv.cells]; exact rfl) | exact rfl)); (· exact rfl); (· exact rfl); (· assumption); intro b1 H1 hB)
                | (apply op_at; (· exact rfl))
                | refine dwp_drawc _ rfl ?_
                | apply drawc_nil
                | (apply drawc_bx_load; (· exact rfl); (· (first | exact wanted_plain rfl | (apply wanted_on; (· exact rfl); (· exact rfl); (· (first | with_reducible assumption | with_reducible rfl | decide))))); (· exact rfl); (· assumption); (· (repeat (first | with_reducible exact At.here | with_reducible apply At.there | with_reducible apply at_app))); (· exact rfl); (· (first | exact part57 _ _ _ _ | exact part49 _ _ | exact rfl)); (· decide +kernel))
                | (apply drawc_pick_f; (· (first | exact wanted_plain rfl | (apply wanted_on; (· exact rfl); (· exact rfl); (· (first | with_reducible assumption | with_reducible rfl | decide))))); (· exact rfl); (· exact rfl); (· (first | with_reducible assumption | with_reducible rfl | decide)); (· exact rfl))
                | (apply drawc_pure; (· (first | exact wanted_plain rfl | (apply wanted_on; (· exact rfl); (· exact rfl); (· (first | with_reducible assumption | with_reducible rfl | decide))))); (· exact rfl); (· exact rfl); (· exact rfl))
                | (apply dwp_cond_t; (· exact rfl); (· (first | with_reducible assumption | with_reducible rfl | decide)))
                | (apply dwp_cond_f; (· exact rfl); (· (first | with_reducible assumption | with_reducible rfl | decide)))
                | apply dwp_block
                | apply dwp_skip
                | fail)
              refine ⟨⟨_, _, k + 1, at' + x.1.s.length, junk_facts ⟨(hB.sub (by (repeat (first | exact List.Sublist.refl _ | exact List.nil_sublist _ | apply List.Sublist.cons_cons | apply List.Sublist.cons | apply List.Sublist.append_left | refine List.Sublist.trans ?_ (List.sublist_append_right _ _))))), h4, by omega, by rw [hus]; exact h6⟩ rfl rfl⟩, ?_⟩
              show s.length - ((at' + x.1.s.length : Nat) : Int).toNat < s.length - (at' : Int).toNat
              omega
          · have hc2 : decide ((k : Int) < (s1.n : Int)) = false := by rw [hn1]; simp; omega
            have hkn : ((k : Int) == (s1.n : Int)) = true := by rw [hn1]; simp; omega
            repeat' (first
              | dsimp only [putD, DV.cells, DH.new_next, DH.set_next, List.length_cons, List.length_nil, Nat.reduceAdd, List.set_cons_zero, List.set_cons_succ, getD_zero, getD_succ, fieldAt_zero, fieldAt_succ, thenD, blockD, retR]
              | apply dwp_seq
              | apply dwp_region
              | apply ops_nil
              | (apply ops_plain; (· exact rfl))
              | (apply ops_on; (· exact rfl); (· exact rfl); (· (first | with_reducible assumption | with_reducible rfl | decide)))
              | (apply op_pick_t; (· exact rfl); (· exact rfl); (· (first | with_reducible assumption | with_reducible rfl | decide)); (· exact rfl))
              | (apply op_at; (· exact rfl))
              | (apply dwp_cond_f; (· exact rfl); (· (first | with_reducible assumption | with_reducible rfl | decide)))
              | apply dwp_ret
              | apply dwp_exit
              | (refine ⟨_, rfl, ?_⟩)
              | fail)
            rw [hkn]
        · have hc1 : decide ((at' : Int) < (s.length : Int)) = false := by simp; omega
          have hkl : k = ts.length := by
            rcases Nat.lt_or_ge k ts.length with h | h
            · exfalso
              rw [List.drop_eq_getElem_cons h] at hg
              cases hg <;> omega
            · omega
          have hkn : ((k : Int) == (s1.n : Int)) = true := by rw [hn1]; simp; omega
          repeat' (first
            | dsimp only [putD, DV.cells, DH.new_next, DH.set_next, List.length_cons, List.length_nil, Nat.reduceAdd, List.set_cons_zero, List.set_cons_succ, getD_zero, getD_succ, fieldAt_zero, fieldAt_succ, thenD, blockD, retR]
            | apply dwp_seq
            | apply dwp_region
            | apply ops_nil
            | (apply ops_plain; (· exact rfl))
            | (apply ops_on; (· exact rfl); (· exact rfl); (· (first | with_reducible assumption | with_reducible rfl | decide)))
            | (apply ops_off1; (· exact rfl); (· exact rfl); (· (first | with_reducible assumption | with_reducible rfl | decide)))
            | (apply op_pick_t; (· exact rfl); (· exact rfl); (· (first | with_reducible assumption | with_reducible rfl | decide)); (· exact rfl))
            | (apply op_pick_f; (· exact rfl); (· exact rfl); (· (first | with_reducible assumption | with_reducible rfl | decide)); (· exact rfl))
            | (apply op_at; (· exact rfl))
            | (apply dwp_cond_f; (· exact rfl); (· (first | with_reducible assumption | with_reducible rfl | decide)))
            | apply dwp_ret
            | apply dwp_exit
            | (refine ⟨_, rfl, ?_⟩)
            | fail)
          rw [hkn]
      · have he' : ((cutF s).e != 0) = true := by simpa using he
        refine enter rfl Tryd.func7 rfl Tryd.ntmps7 rfl ?_
        dsimp only [List.cons_append, List.nil_append, List.length_cons, List.length_nil, List.replicate_succ, List.replicate_zero, Nat.reduceAdd, Nat.reduceSub]
        repeat' (first
          | dsimp only [putD, DV.cells, DH.new_next, DH.set_next, List.length_cons, List.length_nil, Nat.reduceAdd, List.set_cons_zero, List.set_cons_succ, getD_zero, getD_succ, fieldAt_zero, fieldAt_succ, thenD, blockD, retR]
          | apply dwp_seq
          | apply dwp_region
          | apply ops_nil
          | (apply ops_plain; (· exact rfl))
          | (apply ops_on; (· exact rfl); (· exact rfl); (· (first | with_reducible assumption | with_reducible rfl | decide)))
          | (apply op_call; (· exact rfl); (· exact rfl); (· exact rfl); refine call_table (g := gLive) rfl rfl ?_)
          | (apply op_call; (· exact rfl); (· exact rfl); (· exact rfl); (refine (few23 _ _).mono ?_; rintro r0 H' ⟨rfl, rfl⟩; rw [hfs]))
          | (apply op_call; (· exact rfl); (· exact rfl); (· exact rfl); (apply cut_err (s := s); (· exact hs); (· exact he); (· assumption); intro H1 hB))
          | (apply op_pick_t; (· exact rfl); (· exact rfl); (· (first | with_reducible assumption | with_reducible rfl | decide)); (· exact rfl))
          | (apply op_pick_f; (· exact rfl); (· exact rfl); (· (first | with_reducible assumption | with_reducible rfl | decide)); (· exact rfl))
          | (apply bx_store0; (· exact rfl); (· exact rfl); (· exact rfl); (· assumption); (· (first | (dsimp only [putD, DV.cells, DH.new_next, DH.set_next, List.length_cons, List.length_nil, Nat.reduceAdd, List.set_cons_zero, List.set_cons_succ, getD_zero, getD_succ, fieldAt_zero, fieldAt_succ, thenD, blockD, retR, Sv.cells]; done) | (dsimp only [putD, DV.cells, DH.new_next, DH.set_next, List.length_cons, List.length_nil, Nat.reduceAdd, List.set_cons_zero, List.set_cons_succ, getD_zero, getD_succ, fieldAt_zero, fieldAt_succ, thenD, blockD, retR, Sv.cells]; exact rfl) | exact rfl)); (· (repeat (first | with_reducible exact Upd.here | with_reducible apply Upd.there | with_reducible apply upd_app))); (· exact rfl); (· exact rfl); (· exact rfl); (· exact rfl); intro H1 hB)
          | (apply bx_alloc; (· exact rfl); (· exact zero49); (· (first | (dsimp only [putD, DV.cells, DH.new_next, DH.set_next, List.length_cons, List.length_nil, Nat.reduceAdd, List.set_cons_zero, List.set_cons_succ, getD_zero, getD_succ, fieldAt_zero, fieldAt_succ, thenD, blockD, retR, Sv.cells]; done) | (dsimp only [putD, DV.cells, DH.new_next, DH.set_next, List.length_cons, List.length_nil, Nat.reduceAdd, List.set_cons_zero, List.set_cons_succ, getD_zero, getD_succ, fieldAt_zero, fieldAt_succ, thenD, blockD, retR, Sv.cells]; exact rfl) | exact rfl)); (· exact rfl); (· exact rfl); (· assumption); intro b1 H1 hB)
          | (apply op_at; (· exact rfl))
          | (apply dwp_cond_t; (· exact rfl); (· (first | with_reducible assumption | with_reducible rfl | decide)))
          | (apply dwp_cond_f; (· exact rfl); (· (first | with_reducible assumption | with_reducible rfl | decide)))
          | apply dwp_skip
          | apply dwp_ret
          | (refine ⟨_, rfl, ?_⟩)
          | fail)
        all_goals first | rfl | decide
end Go.Det.C

/- A row out of what the deterministic reading comes to: slices' weights handed on. -/
namespace Go.Det
set_option linter.unusedVariables false
set_option linter.unusedSimpArgs false
open Go.ChangeShapes Go.WideShapes Go.RowKit
section
variable {P : Program} {A : Type} {enc : TypeId × Value → A} {W : World}
end
end Go.Det
