/- Heaps: made, with a thing more, without one. -/
import Derived.Test.YtpgobchpnjgbdaaHFull8
namespace Go.Det.Q
open Go Go.Det Go.Proofs
set_option maxRecDepth 4000
set_option maxHeartbeats 4000000
set_option linter.unusedVariables false
set_option linter.unusedSimpArgs false
theorem mine_itsF {A B H : DH} {l : List Item} {p : Option (Nat × Nat × Nat)} {n c : Nat} {ex : Bool} (h : Mine B H 6 (l.map Item.cells) (.sl p n c ex)) (hl : l.length = n) (hm : l.length ≤ maxLen) (hf : ∀ loc i z, p = some (loc, i, z) → A.next ≤ loc) : ItsF A H (.sl p n c ex) l := by
  obtain ⟨p', c', ex', h1, h2⟩ := it_of_mine h hm
  cases h1
  exact ⟨_, _, _, rfl, h2, hf⟩
theorem upL_length (l : List Item) (i : Nat) : (upL l i).length = l.length := by
  induction i using Nat.strongRecOn generalizing l with
  | _ i ih =>
    unfold upL
    split
    · rename_i h
      split
      · rename_i x y hx hy
        split
        · rw [ih ((i - 1) / 2) (by omega)]; simp
        · rfl
      · rfl
    · rfl
/-! ### Push -/
theorem push16 (H : DH) (p : Option (Nat × Nat × Nat)) (c : Nat) (ex : Bool) (l : List Item) (x : Item) (hl : It H p c ex l) (hn : l.length ≤ 1000000) :
    CallWp Try.prog X4 16 [.sl p l.length c ex, .agg x.cells] H (fun r H' => Above H H' ∧
      ((checkB l = false ∧ r = .tuple [.sl none 0 0 true, .int .i64 1]) ∨ (checkB l = true ∧ l.length = 4096 ∧ r = .tuple [.sl none 0 0 true, .int .i64 7]) ∨
       (checkB l = true ∧ l.length ≠ 4096 ∧ ∃ s, r = .tuple [s, .int .i64 0] ∧ ItsF H H' s (upL (l ++ [x]) l.length)))) := by
  have hchk := (hl.mono ((Above.refl H).new (.rows false 6 [x.cells]))).check
  cases hcb : checkB l with
  | false =>
    rw [hcb] at hchk
    refine enter rfl Try.func16 rfl Try.ntmps16 rfl ?_
    dsimp only [List.cons_append, List.nil_append, List.length_cons, List.length_nil, List.replicate_succ, List.replicate_zero, Nat.reduceAdd, Nat.reduceSub]
    repeat' (first
      | dsimp only [putD, DV.cells, DH.new_next, DH.set_next, List.length_cons, List.length_nil, Nat.reduceAdd, List.set_cons_zero, List.set_cons_succ, getD_zero, getD_succ, fieldAt_zero, fieldAt_succ, thenD, blockD, retR]
      | apply dwp_seq
      | apply dwp_region
      | apply ops_nil
      | (apply ops_plain; (· exact rfl))
      | (apply ops_on; (· exact rfl); (· exact rfl); (· (first | with_reducible assumption | with_reducible rfl | decide)))
      | (apply ops_off1; (· exact rfl); (· exact rfl); (· (first | with_reducible assumption | with_reducible rfl | decide)))
      | (apply ops_off0; (· exact rfl); (· exact rfl); (· (first | with_reducible assumption | with_reducible rfl | decide)))
      | (apply ops_offn; (· exact rfl); (· exact rfl))
      | (apply ops_split1; (· exact rfl); (· exact rfl); all_goals intro hb)
      | (apply ops_split0; (· exact rfl); (· exact rfl); all_goals intro hb)
      | (apply op_call; (· exact rfl); (· exact rfl); (· exact rfl); refine call_table (g := gCheck) rfl hchk ?_)
      | (apply op_pick_t; (· exact rfl); (· exact rfl); (· (first | with_reducible assumption | with_reducible rfl | decide)); (· exact rfl))
      | (apply op_pick_f; (· exact rfl); (· exact rfl); (· (first | with_reducible assumption | with_reducible rfl | decide)); (· exact rfl))
      | (apply op_load_at; (· exact rfl); (· exact rfl); (· repeat (first | with_reducible assumption | (with_reducible apply obj_here; with_reducible rfl) | with_reducible apply obj_set | (with_reducible apply obj_skip_lo; (· ((repeat (first | with_reducible assumption | with_reducible apply Lo.self | with_reducible apply Lo.new | with_reducible apply Lo.set | with_reducible apply Lo.self1 | with_reducible apply Lo.self2)); done))) | (with_reducible apply obj_past; (· ((first | with_reducible assumption | with_reducible apply ne_add1 | with_reducible apply ne_add1' | with_reducible apply ne_add2 | with_reducible apply ne_add2' | with_reducible apply ne_add12 | with_reducible apply ne_add21 | (with_reducible apply Lo.ne; (repeat (first | with_reducible assumption | with_reducible apply Lo.self | with_reducible apply Lo.new | with_reducible apply Lo.set | with_reducible apply Lo.self1 | with_reducible apply Lo.self2)); done) | (with_reducible apply Lo.ne1; (repeat (first | with_reducible assumption | with_reducible apply Lo.self | with_reducible apply Lo.new | with_reducible apply Lo.set | with_reducible apply Lo.self1 | with_reducible apply Lo.self2)); done) | (with_reducible apply Lo.ne'; (repeat (first | with_reducible assumption | with_reducible apply Lo.self | with_reducible apply Lo.new | with_reducible apply Lo.set | with_reducible apply Lo.self1 | with_reducible apply Lo.self2)); done) | (with_reducible apply Lo.ne1'; (repeat (first | with_reducible assumption | with_reducible apply Lo.self | with_reducible apply Lo.new | with_reducible apply Lo.set | with_reducible apply Lo.self1 | with_reducible apply Lo.self2)); done)); done))))); (· exact rfl); (· exact rfl))
      | (apply op_store_at; (· exact rfl); (· exact rfl); (· exact rfl); (· repeat (first | with_reducible assumption | (with_reducible apply obj_here; with_reducible rfl) | with_reducible apply obj_set | (with_reducible apply obj_skip_lo; (· ((repeat (first | with_reducible assumption | with_reducible apply Lo.self | with_reducible apply Lo.new | with_reducible apply Lo.set | with_reducible apply Lo.self1 | with_reducible apply Lo.self2)); done))) | (with_reducible apply obj_past; (· ((first | with_reducible assumption | with_reducible apply ne_add1 | with_reducible apply ne_add1' | with_reducible apply ne_add2 | with_reducible apply ne_add2' | with_reducible apply ne_add12 | with_reducible apply ne_add21 | (with_reducible apply Lo.ne; (repeat (first | with_reducible assumption | with_reducible apply Lo.self | with_reducible apply Lo.new | with_reducible apply Lo.set | with_reducible apply Lo.self1 | with_reducible apply Lo.self2)); done) | (with_reducible apply Lo.ne1; (repeat (first | with_reducible assumption | with_reducible apply Lo.self | with_reducible apply Lo.new | with_reducible apply Lo.set | with_reducible apply Lo.self1 | with_reducible apply Lo.self2)); done) | (with_reducible apply Lo.ne'; (repeat (first | with_reducible assumption | with_reducible apply Lo.self | with_reducible apply Lo.new | with_reducible apply Lo.set | with_reducible apply Lo.self1 | with_reducible apply Lo.self2)); done) | (with_reducible apply Lo.ne1'; (repeat (first | with_reducible assumption | with_reducible apply Lo.self | with_reducible apply Lo.new | with_reducible apply Lo.set | with_reducible apply Lo.self1 | with_reducible apply Lo.self2)); done)); done))))); (· exact rfl); (· exact rfl); (· exact rfl))
      | (apply op_at; (· exact opD_eqb rfl rfl rfl rfl))
      | (apply op_at; (· exact opD_neqb rfl rfl rfl rfl))
      | (apply op_at; (· exact rfl))
      | (apply dwp_cond_t; (· exact rfl); (· (first | with_reducible assumption | with_reducible rfl | decide)))
      | (apply dwp_cond_f; (· exact rfl); (· (first | with_reducible assumption | with_reducible rfl | decide)))
      | (refine dwp_cond rfl ?_ ?_ <;> intro hb)
      | apply dwp_block
      | apply dwp_skip
      | apply dwp_ret
      | apply dwp_exit
      | (refine ⟨_, rfl, ?_⟩)
      | fail)
    exact ⟨(Above.refl H).new _, .inl ⟨by simp, rfl⟩⟩
  | true =>
    rw [hcb] at hchk
    by_cases h4 : l.length = 4096
    · have hc : ((l.length : Int) == 4096) = true := by simp [h4]
      refine enter rfl Try.func16 rfl Try.ntmps16 rfl ?_
      dsimp only [List.cons_append, List.nil_append, List.length_cons, List.length_nil, List.replicate_succ, List.replicate_zero, Nat.reduceAdd, Nat.reduceSub]
      repeat' (first
        | dsimp only [putD, DV.cells, DH.new_next, DH.set_next, List.length_cons, List.length_nil, Nat.reduceAdd, List.set_cons_zero, List.set_cons_succ, getD_zero, getD_succ, fieldAt_zero, fieldAt_succ, thenD, blockD, retR]
        | apply dwp_seq
        | apply dwp_region
        | apply ops_nil
        | (apply ops_plain; (· exact rfl))
        | (apply ops_on; (· exact rfl); (· exact rfl); (· (first | with_reducible assumption | with_reducible rfl | decide)))
        | (apply ops_off1; (· exact rfl); (· exact rfl); (· (first | with_reducible assumption | with_reducible rfl | decide)))
        | (apply ops_off0; (· exact rfl); (· exact rfl); (· (first | with_reducible assumption | with_reducible rfl | decide)))
        | (apply ops_offn; (· exact rfl); (· exact rfl))
        | (apply ops_split1; (· exact rfl); (· exact rfl); all_goals intro hb)
        | (apply ops_split0; (· exact rfl); (· exact rfl); all_goals intro hb)
        | (apply op_call; (· exact rfl); (· exact rfl); (· exact rfl); refine call_table (g := gCheck) rfl hchk ?_)
        | (apply op_pick_t; (· exact rfl); (· exact rfl); (· (first | with_reducible assumption | with_reducible rfl | decide)); (· exact rfl))
        | (apply op_pick_f; (· exact rfl); (· exact rfl); (· (first | with_reducible assumption | with_reducible rfl | decide)); (· exact rfl))
        | (apply op_load_at; (· exact rfl); (· exact rfl); (· repeat (first | with_reducible assumption | (with_reducible apply obj_here; with_reducible rfl) | with_reducible apply obj_set | (with_reducible apply obj_skip_lo; (· ((repeat (first | with_reducible assumption | with_reducible apply Lo.self | with_reducible apply Lo.new | with_reducible apply Lo.set | with_reducible apply Lo.self1 | with_reducible apply Lo.self2)); done))) | (with_reducible apply obj_past; (· ((first | with_reducible assumption | with_reducible apply ne_add1 | with_reducible apply ne_add1' | with_reducible apply ne_add2 | with_reducible apply ne_add2' | with_reducible apply ne_add12 | with_reducible apply ne_add21 | (with_reducible apply Lo.ne; (repeat (first | with_reducible assumption | with_reducible apply Lo.self | with_reducible apply Lo.new | with_reducible apply Lo.set | with_reducible apply Lo.self1 | with_reducible apply Lo.self2)); done) | (with_reducible apply Lo.ne1; (repeat (first | with_reducible assumption | with_reducible apply Lo.self | with_reducible apply Lo.new | with_reducible apply Lo.set | with_reducible apply Lo.self1 | with_reducible apply Lo.self2)); done) | (with_reducible apply Lo.ne'; (repeat (first | with_reducible assumption | with_reducible apply Lo.self | with_reducible apply Lo.new | with_reducible apply Lo.set | with_reducible apply Lo.self1 | with_reducible apply Lo.self2)); done) | (with_reducible apply Lo.ne1'; (repeat (first | with_reducible assumption | with_reducible apply Lo.self | with_reducible apply Lo.new | with_reducible apply Lo.set | with_reducible apply Lo.self1 | with_reducible apply Lo.self2)); done)); done))))); (· exact rfl); (· exact rfl))
        | (apply op_store_at; (· exact rfl); (· exact rfl); (· exact rfl); (· repeat (first | with_reducible assumption | (with_reducible apply obj_here; with_reducible rfl) | with_reducible apply obj_set | (with_reducible apply obj_skip_lo; (· ((repeat (first | with_reducible assumption | with_reducible apply Lo.self | with_reducible apply Lo.new | with_reducible apply Lo.set | with_reducible apply Lo.self1 | with_reducible apply Lo.self2)); done))) | (with_reducible apply obj_past; (· ((first | with_reducible assumption | with_reducible apply ne_add1 | with_reducible apply ne_add1' | with_reducible apply ne_add2 | with_reducible apply ne_add2' | with_reducible apply ne_add12 | with_reducible apply ne_add21 | (with_reducible apply Lo.ne; (repeat (first | with_reducible assumption | with_reducible apply Lo.self | with_reducible apply Lo.new | with_reducible apply Lo.set | with_reducible apply Lo.self1 | with_reducible apply Lo.self2)); done) | (with_reducible apply Lo.ne1; (repeat (first | with_reducible assumption | with_reducible apply Lo.self | with_reducible apply Lo.new | with_reducible apply Lo.set | with_reducible apply Lo.self1 | with_reducible apply Lo.self2)); done) | (with_reducible apply Lo.ne'; (repeat (first | with_reducible assumption | with_reducible apply Lo.self | with_reducible apply Lo.new | with_reducible apply Lo.set | with_reducible apply Lo.self1 | with_reducible apply Lo.self2)); done) | (with_reducible apply Lo.ne1'; (repeat (first | with_reducible assumption | with_reducible apply Lo.self | with_reducible apply Lo.new | with_reducible apply Lo.set | with_reducible apply Lo.self1 | with_reducible apply Lo.self2)); done)); done))))); (· exact rfl); (· exact rfl); (· exact rfl))
        | (apply op_at; (· exact opD_eqb rfl rfl rfl rfl))
        | (apply op_at; (· exact opD_neqb rfl rfl rfl rfl))
        | (apply op_at; (· exact rfl))
        | (apply dwp_cond_t; (· exact rfl); (· (first | with_reducible assumption | with_reducible rfl | decide)))
        | (apply dwp_cond_f; (· exact rfl); (· (first | with_reducible assumption | with_reducible rfl | decide)))
        | (refine dwp_cond rfl ?_ ?_ <;> intro hb)
        | apply dwp_block
        | apply dwp_skip
        | apply dwp_ret
        | apply dwp_exit
        | (refine ⟨_, rfl, ?_⟩)
        | fail)
      exact ⟨(Above.refl H).new _, .inr (.inl ⟨by simp, h4, rfl⟩)⟩
    · have hc : ((l.length : Int) == 4096) = false := by simp only [beq_eq_false_iff_ne]; omega
      have hab0 : Above H (H.new (.rows false 6 [x.cells])) := (Above.refl H).new _
      have h4096 : l.length ≤ 4096 := by
        unfold checkB at hcb
        simp only [Bool.and_eq_true, decide_eq_true_eq] at hcb
        exact hcb.2
      refine enter rfl Try.func16 rfl Try.ntmps16 rfl ?_
      dsimp only [List.cons_append, List.nil_append, List.length_cons, List.length_nil, List.replicate_succ, List.replicate_zero, Nat.reduceAdd, Nat.reduceSub]
      repeat' (first
        | dsimp only [putD, DV.cells, DH.new_next, DH.set_next, List.length_cons, List.length_nil, Nat.reduceAdd, List.set_cons_zero, List.set_cons_succ, getD_zero, getD_succ, fieldAt_zero, fieldAt_succ, thenD, blockD, retR]
        | apply dwp_seq
        | apply dwp_region
        | apply ops_nil
        | (apply drawp_read; (· (first | exact wanted_plain rfl | (apply wanted_on; (· exact rfl); (· exact rfl); (· (first | with_reducible assumption | with_reducible rfl | decide))))); (· exact rfl); (· exact rfl); (· kernel_rfl); (· intro H' h; have h : Above _ _ := h; exact opD_load rfl rfl (h.obj (l := H.next) (by exact Nat.lt_succ_self _) (by exact obj_here rfl)) (rfl) (item_part x)))
        | (apply ops_plain; (· exact rfl))
        | (apply ops_on; (· exact rfl); (· exact rfl); (· (first | with_reducible assumption | with_reducible rfl | decide)))
        | (apply ops_off1; (· exact rfl); (· exact rfl); (· (first | with_reducible assumption | with_reducible rfl | decide)))
        | (apply ops_off0; (· exact rfl); (· exact rfl); (· (first | with_reducible assumption | with_reducible rfl | decide)))
        | (apply ops_offn; (· exact rfl); (· exact rfl))
        | (apply ops_split1; (· exact rfl); (· exact rfl); all_goals intro hb)
        | (apply ops_split0; (· exact rfl); (· exact rfl); all_goals intro hb)
        | (apply op_call; (· exact rfl); (· exact rfl); (· exact rfl); refine call_table (g := gCheck) rfl hchk ?_)
        | (apply op_call; (· exact rfl); (· exact rfl); (· exact rfl); refine (clone54 _ p c ex l (hl.mono hab0) hn).mono ?_; rintro r H1 ⟨hab1, hm1, _⟩; refine ⟨hab1, ?_⟩; have hm1' := hm1.mono ((Above.refl H1).new (.rows false 6 [x.cells])))
        | (apply op_call; (· exact rfl); (· exact rfl); (· exact rfl); refine (up55 _ loc (l.length + 1) _ _ (l ++ [x]) [] l.length hlt (by rw [List.append_nil, List.map_append]; exact ho2) (by simp) (by omega) (by omega)).mono ?_; rintro r3 H3 ⟨hab3, ho3⟩)
        | (apply op_pick_t; (· exact rfl); (· exact rfl); (· (first | with_reducible assumption | with_reducible rfl | decide)); (· exact rfl))
        | (apply op_pick_f; (· exact rfl); (· exact rfl); (· (first | with_reducible assumption | with_reducible rfl | decide)); (· exact rfl))
        | (refine op_append (xt := 73) (new := [x.cells]) rfl rfl rfl E73 hm1' (hab1.new _) (appended_sl Try.underlying73 Sl.fresh _ _) rfl (by rw [List.length_map]; show l.length + 1 ≤ mostD; unfold mostD; omega) ?_; intro s2 H2 hm2 hab2 hax2 hfr2; obtain ⟨loc, e2, heq, hge, hlt, ho2⟩ := hm2.wr (k := l.length) (r := x.cells) (by rw [List.getElem?_append_right (by simp)]; simp); have hle : (l.map Item.cells ++ [x.cells]).length = l.length + 1 := (by simp); rw [hle] at heq; subst heq; refine ⟨hab2, ?_⟩)
        | (apply op_at; (· exact rfl); refine ⟨hab1.new _, ?_⟩)
        | (apply op_load_at; (· exact rfl); (· exact rfl); (· repeat (first | with_reducible assumption | (with_reducible apply obj_here; with_reducible rfl) | with_reducible apply obj_set | (with_reducible apply obj_skip_lo; (· ((repeat (first | with_reducible assumption | with_reducible apply Lo.self | with_reducible apply Lo.new | with_reducible apply Lo.set | with_reducible apply Lo.self1 | with_reducible apply Lo.self2)); done))) | (with_reducible apply obj_past; (· ((first | with_reducible assumption | with_reducible apply ne_add1 | with_reducible apply ne_add1' | with_reducible apply ne_add2 | with_reducible apply ne_add2' | with_reducible apply ne_add12 | with_reducible apply ne_add21 | (with_reducible apply Lo.ne; (repeat (first | with_reducible assumption | with_reducible apply Lo.self | with_reducible apply Lo.new | with_reducible apply Lo.set | with_reducible apply Lo.self1 | with_reducible apply Lo.self2)); done) | (with_reducible apply Lo.ne1; (repeat (first | with_reducible assumption | with_reducible apply Lo.self | with_reducible apply Lo.new | with_reducible apply Lo.set | with_reducible apply Lo.self1 | with_reducible apply Lo.self2)); done) | (with_reducible apply Lo.ne'; (repeat (first | with_reducible assumption | with_reducible apply Lo.self | with_reducible apply Lo.new | with_reducible apply Lo.set | with_reducible apply Lo.self1 | with_reducible apply Lo.self2)); done) | (with_reducible apply Lo.ne1'; (repeat (first | with_reducible assumption | with_reducible apply Lo.self | with_reducible apply Lo.new | with_reducible apply Lo.set | with_reducible apply Lo.self1 | with_reducible apply Lo.self2)); done)); done))))); (· exact rfl); (· exact rfl))
        | (apply op_store_at; (· exact rfl); (· exact rfl); (· exact rfl); (· repeat (first | with_reducible assumption | (with_reducible apply obj_here; with_reducible rfl) | with_reducible apply obj_set | (with_reducible apply obj_skip_lo; (· ((repeat (first | with_reducible assumption | with_reducible apply Lo.self | with_reducible apply Lo.new | with_reducible apply Lo.set | with_reducible apply Lo.self1 | with_reducible apply Lo.self2)); done))) | (with_reducible apply obj_past; (· ((first | with_reducible assumption | with_reducible apply ne_add1 | with_reducible apply ne_add1' | with_reducible apply ne_add2 | with_reducible apply ne_add2' | with_reducible apply ne_add12 | with_reducible apply ne_add21 | (with_reducible apply Lo.ne; (repeat (first | with_reducible assumption | with_reducible apply Lo.self | with_reducible apply Lo.new | with_reducible apply Lo.set | with_reducible apply Lo.self1 | with_reducible apply Lo.self2)); done) | (with_reducible apply Lo.ne1; (repeat (first | with_reducible assumption | with_reducible apply Lo.self | with_reducible apply Lo.new | with_reducible apply Lo.set | with_reducible apply Lo.self1 | with_reducible apply Lo.self2)); done) | (with_reducible apply Lo.ne'; (repeat (first | with_reducible assumption | with_reducible apply Lo.self | with_reducible apply Lo.new | with_reducible apply Lo.set | with_reducible apply Lo.self1 | with_reducible apply Lo.self2)); done) | (with_reducible apply Lo.ne1'; (repeat (first | with_reducible assumption | with_reducible apply Lo.self | with_reducible apply Lo.new | with_reducible apply Lo.set | with_reducible apply Lo.self1 | with_reducible apply Lo.self2)); done)); done))))); (· exact rfl); (· exact rfl); (· exact rfl))
        | (apply op_at; (· exact opD_eqb rfl rfl rfl rfl))
        | (apply op_at; (· exact opD_neqb rfl rfl rfl rfl))
        | (apply op_at; (· exact rfl))
        | refine dwp_drawp _ rfl (fun H' => Above _ H') (Above.refl _) ?_
        | apply drawp_nil
        | apply tand
        | (apply drawp_pick_t; (· (first | exact wanted_plain rfl | (apply wanted_on; (· exact rfl); (· exact rfl); (· (first | with_reducible assumption | with_reducible rfl | decide))))); (· exact rfl); (· exact rfl); (· (first | with_reducible assumption | with_reducible rfl | decide)); (· exact rfl))
        | (apply drawp_pick_f; (· (first | exact wanted_plain rfl | (apply wanted_on; (· exact rfl); (· exact rfl); (· (first | with_reducible assumption | with_reducible rfl | decide))))); (· exact rfl); (· exact rfl); (· (first | with_reducible assumption | with_reducible rfl | decide)); (· exact rfl))
        | (apply drawp_pure; (· (first | exact wanted_plain rfl | (apply wanted_on; (· exact rfl); (· exact rfl); (· (first | with_reducible assumption | with_reducible rfl | decide))))); (· exact rfl); (· exact rfl); (· exact rfl))
        | (apply drawp_sync_st (fun _ => True); (· exact rfl); (· (first | exact wanted_plain rfl | (apply wanted_on; (· exact rfl); (· exact rfl); (· (first | with_reducible assumption | with_reducible rfl | decide))))); (· kernel_rfl))
        | (apply drawp_move; (· (first | exact wanted_plain rfl | (apply wanted_on; (· exact rfl); (· exact rfl); (· (first | with_reducible assumption | with_reducible rfl | decide))))); (· exact rfl); (· kernel_rfl))
        | (apply drawp_off; (· (first | (apply wanted_off1; (· exact rfl); (· exact rfl); (· (first | with_reducible assumption | with_reducible rfl | decide))) | (apply wanted_off0; (· exact rfl); (· exact rfl); (· (first | with_reducible assumption | with_reducible rfl | decide))) | (apply wanted_none; (· exact rfl); (· exact rfl)))))
        | (apply dwp_cond_t; (· exact rfl); (· (first | with_reducible assumption | with_reducible rfl | decide)))
        | (apply dwp_cond_f; (· exact rfl); (· (first | with_reducible assumption | with_reducible rfl | decide)))
        | (refine dwp_cond rfl ?_ ?_ <;> intro hb)
        | apply dwp_block
        | apply dwp_skip
        | apply dwp_ret
        | apply dwp_exit
        | (refine ⟨_, rfl, ?_⟩)
        | fail)
      rw [List.append_nil] at ho3
      have hab4 : Above H H3 := hab3.above (hab0.trans hab2) (fun m h => by rw [h]; exact Nat.le_trans (Nat.le_succ _) hge)
      have hlen := hl.len
      refine ⟨hab4, .inr (.inr ⟨by simp, h4, _, rfl, mine_itsF (B := H) (mine_of (n := l.length + 1) ?_ ?_ (Nat.lt_of_lt_of_le hlt hab3.le) ho3) (by rw [upL_length]; simp) ?_ (fun a i z e => by cases e; exact Nat.le_trans (Nat.le_succ _) hge)⟩)⟩
      · rw [List.length_map, upL_length]; simp
      · exact Nat.le_trans (Nat.le_succ _) hge
      · rw [upL_length]; simp; unfold maxLen; omega
/-! ### without -/
end Go.Det.Q

/- Heaps: without the first, without one of a number. -/
namespace Go.Det.Q
open Go Go.Det Go.Proofs
set_option maxRecDepth 4000
set_option maxHeartbeats 4000000
set_option linter.unusedVariables false
set_option linter.unusedSimpArgs false
/-! ### Take -/
end Go.Det.Q

/- Heaps, by the document's reference. -/
namespace Go.Det.Q
open Go Go.Det Go.Proofs
set_option maxRecDepth 4000
set_option maxHeartbeats 4000000
set_option linter.unusedVariables false
set_option linter.unusedSimpArgs false
/-- The slice up to a place, and from there on. -/
theorem It.take {H : DH} {loc i c : Nat} {ex : Bool} {l : List Item} (h : It H (some (loc, i, 6)) c ex l) {k : Nat} (hk : k ≤ l.length) {xt : Option TypeDesc} {t : TypeId} (hu : xt = some (.slice t)) : appendedD Try.prog 26 H xt (.sl (some (loc, i, 6)) ((k : Int)).toNat c ex) = some ((l.take k).map Item.cells) := by
  have h1 := h.sl.sub (a := 0) (b := k) (Nat.zero_le _) (by rw [List.length_map]; omega)
  have h2 := appended_sl (P := Try.prog) (e := 26) hu h1 c ex
  rw [List.drop_zero, Nat.sub_zero, ← List.map_take, List.length_map, List.length_take, Nat.min_eq_left (by omega)] at h2
  rw [Int.toNat_natCast]
  exact h2
theorem It.dropI {H : DH} {loc i c : Nat} {ex : Bool} {l : List Item} (h : It H (some (loc, i, 6)) c ex l) {k : Nat} (hk : k ≤ l.length) : It H (some (loc, i + k, 6)) (c - k) ex (l.drop k) := by
  have h1 := h.sl.sub (a := k) (b := l.length) hk (by rw [List.length_map]; omega)
  have e0 : (((l.map Item.cells).drop k).take (l.length - k)) = (l.drop k).map Item.cells := by
    rw [List.map_drop, List.take_of_length_le (by simp)]
  rw [e0] at h1
  exact ⟨h1, fun h => (by cases h), by have := h.len; rw [List.length_drop]; omega, by have := h.cap; rw [List.length_drop]; omega⟩
theorem It.drop {H : DH} {loc i c : Nat} {ex : Bool} {l : List Item} (h : It H (some (loc, i, 6)) c ex l) {k : Nat} (hk : k ≤ l.length) {xt : Option TypeDesc} {t : TypeId} (hu : xt = some (.slice t)) : appendedD Try.prog 26 H xt (.sl (some (loc, i + ((k : Int)).toNat, 6)) (l.length - ((k : Int)).toNat) (c - ((k : Int)).toNat) ex) = some ((l.drop k).map Item.cells) := by
  have h2 := (h.dropI hk).appended hu
  rw [List.length_drop] at h2
  rw [Int.toNat_natCast]
  exact h2
end Go.Det.Q

/- One's own slice grows: where it leads to. -/
namespace Go.Det
set_option linter.unusedVariables false
set_option linter.unusedSimpArgs false
section
variable {P : Program} {X : Ext} {st e : TypeId} {z by_ : Nat} {z0 : DV}
/-- Something to be shown later. -/
structure Hold (p : Prop) : Prop where
  h : p
/-- An operation whose value is told. -/
theorem op_told {o : Oper} {env : List DV} {H : DH} {K : DV → DH → Prop} {v w : DV} {H' : DH} (h : opD P (fun _ _ _ => none) o env H = some (v, H')) (e : v = w) (hk : K w H') : OpWp P X o env H K := by
  subst e; exact op_at h hk
end
end Go.Det

/- Heaps, by the document's reference: sorted, with a thing more, without one. -/
namespace Go.Det.Q
open Go Go.Det Go.Proofs
set_option maxRecDepth 4000
set_option maxHeartbeats 4000000
set_option linter.unusedVariables false
set_option linter.unusedSimpArgs false
end Go.Det.Q

/- Heaps, plainly: what is taken up or down keeps the order, and the same things. -/
namespace Go.Det.Q
open Go Go.Det Go.Proofs
set_option maxHeartbeats 1000000
set_option linter.unusedVariables false
set_option linter.unusedSimpArgs false
open List
instance : Inhabited Item := ⟨⟨0, 0, 0, 0, 0, 0⟩⟩
def g (l : List Item) (i : Nat) : Item := l.getD i default
theorem g_at {l : List Item} {i : Nat} (h : i < l.length) : l[i]? = some (g l i) := by simp [g, List.getD, List.getElem?_eq_getElem h]
theorem g_of {l : List Item} {i : Nat} {x : Item} (h : l[i]? = some x) : g l i = x := by simp [g, List.getD, h]
theorem g_set {l : List Item} {i j : Nat} {x : Item} (h : i < l.length) : g (l.set i x) j = if i = j then x else g l j := by
  simp only [g, List.getD, List.getElem?_set]
  split
  · rename_i e; subst e; simp [h]
  · rfl
/-- A thing does not come ahead of the one above. -/
def okAt (l : List Item) (i : Nat) : Prop := ilt (g l i) (g l ((i - 1) / 2)) = false
theorem badAt_ok {l : List Item} {i : Nat} (h : i < l.length) : badAt l i = false ↔ okAt l i := by
  unfold badAt okAt
  rw [g_at h, g_at (by omega)]
def Heap (l : List Item) : Prop := ∀ i, 0 < i → i < l.length → okAt l i
theorem heapB_heap {l : List Item} : heapB l = true ↔ Heap l := by
  rw [heapB_iff]
  exact ⟨fun h i h0 hi => (badAt_ok hi).mp (h i h0 hi), fun h i h0 hi => (badAt_ok hi).mpr (h i h0 hi)⟩
/-! ### order -/
theorem upL_heap : ∀ (i : Nat) (l : List Item), i < l.length → (∀ j, 0 < j → j < l.length → j ≠ i → okAt l j) → (0 < i → ∀ c, 0 < c → c < l.length → (c - 1) / 2 = i → ilt (g l c) (g l ((i - 1) / 2)) = false) → Heap (upL l i) := by
  intro i
  induction i using Nat.strongRecOn with
  | _ i ih =>
    intro l hi hok hch
    by_cases h0 : 0 < i
    · have ha : (i - 1) / 2 < l.length := by omega
      cases hlt : ilt (g l i) (g l ((i - 1) / 2)) with
      | false =>
        rw [upL_stop h0 (g_at hi) (g_at ha) hlt]
        intro j hj0 hj
        by_cases e : j = i
        · subst e; exact hlt
        · exact hok j hj0 hj e
      | true =>
        rw [upL_go h0 (g_at hi) (g_at ha) hlt]
        generalize hav : (i - 1) / 2 = a at *
        have hai : a < i := by omega
        have gs : ∀ j, g ((l.set i (g l a)).set a (g l i)) j = if j = a then g l i else if j = i then g l a else g l j := by
          intro j
          rw [g_set (by simp; exact ha), g_set hi]
          by_cases e1 : j = a
          · subst e1; simp
          · rw [if_neg (fun e => e1 e.symm), if_neg e1]
            by_cases e2 : j = i
            · subst e2; simp
            · rw [if_neg (fun e => e2 e.symm), if_neg e2]
        have hlen : ((l.set i (g l a)).set a (g l i)).length = l.length := by simp
        refine ih a hai _ (by rw [hlen]; exact ha) ?_ ?_
        · intro j hj0 hj hja
          rw [hlen] at hj
          unfold okAt
          rw [gs, gs, if_neg hja]
          by_cases e1 : j = i
          · subst e1
            rw [if_pos rfl, hav, if_pos rfl]
            exact ilt_asym hlt
          · rw [if_neg e1]
            by_cases e2 : (j - 1) / 2 = a
            · rw [if_pos e2]
              have h1 := hok j hj0 hj e1
              unfold okAt at h1
              rw [e2] at h1
              exact nlt_trans (ilt_asym hlt) h1
            · rw [if_neg e2]
              by_cases e3 : (j - 1) / 2 = i
              · rw [if_pos e3]
                exact hch h0 j hj0 hj e3
              · rw [if_neg e3]
                exact hok j hj0 hj e1
        · intro ha0 c hc0 hc hca
          rw [hlen] at hc
          have hoka := hok a ha0 ha (by omega)
          unfold okAt at hoka
          rw [gs, gs, if_neg (show (a - 1) / 2 ≠ a by omega), if_neg (show (a - 1) / 2 ≠ i by omega), if_neg (show c ≠ a by omega)]
          by_cases e1 : c = i
          · rw [if_pos e1]
            exact hoka
          · rw [if_neg e1]
            have h1 := hok c hc0 hc e1
            unfold okAt at h1
            rw [hca] at h1
            exact nlt_trans hoka h1
    · have e : i = 0 := by omega
      subst e
      rw [upL_zero]
      intro j hj0 hj
      exact hok j hj0 hj (by omega)
theorem pushL_heap {l : List Item} {x : Item} (h : Heap l) : Heap (upL (l ++ [x]) l.length) := by
  have gl : ∀ j, j < l.length → g (l ++ [x]) j = g l j := fun j hj => g_of (by rw [List.getElem?_append_left hj]; exact g_at hj)
  refine upL_heap l.length _ (by simp) (fun j h0 hj hne => ?_) (fun h0 c hc0 hc hcl => ?_)
  · have hj' : j < l.length := by simp at hj; omega
    unfold okAt
    rw [gl j hj', gl _ (by omega)]
    exact h j h0 hj'
  · simp at hc; omega
/-! ### sorted -/
/-! ### what has a number -/
end Go.Det.Q

/- What pushes, pops and takes come to, in one form. -/
namespace Go.Det.Q
open Go Go.Det Go.Proofs
set_option maxRecDepth 4000
set_option maxHeartbeats 4000000
set_option linter.unusedVariables false
set_option linter.unusedSimpArgs false
def zeroI : Item := ⟨0, 0, 0, 0, 0, 0⟩
theorem nilF (A H : DH) : ItsF A H (.sl none 0 0 true) [] := ⟨none, 0, true, rfl, .nil0 H, fun _ _ _ h => (by cases h)⟩
def pushE (l : List Item) : Int := if checkB l = true then (if l.length = 4096 then 7 else 0) else 1
def pushV (l : List Item) (x : Item) : List Item := if pushE l = 0 then upL (l ++ [x]) l.length else []
theorem pushE_bad {l : List Item} (h : checkB l = false) : pushE l = 1 := by simp [pushE, h]
theorem pushE_full {l : List Item} (h : checkB l = true) (k : l.length = 4096) : pushE l = 7 := by simp [pushE, h, k]
theorem pushE_ok {l : List Item} (h : checkB l = true) (k : l.length ≠ 4096) : pushE l = 0 := by simp [pushE, h, k]
theorem checkB_heap {l : List Item} : checkB l = true ↔ Heap l ∧ l.length ≤ 4096 := by
  unfold checkB
  rw [Bool.and_eq_true, heapB_heap, decide_eq_true_eq]
section
variable {H : DH} {s : DV} {l : List Item}
theorem push_c (x : Item) (h : Its H s l) (hn : l.length ≤ 1000000) : CallWp Try.prog X4 16 [s, .agg x.cells] H (fun r H' => Above H H' ∧ ∃ s', r = .tuple [s', .int .i64 (pushE l)] ∧ ItsF H H' s' (pushV l x)) := by
  obtain ⟨p, c, ex, rfl, hl⟩ := h
  refine (push16 H p c ex l x hl hn).mono ?_
  rintro r H' ⟨hab, ⟨h1, rfl⟩ | ⟨h1, h2, rfl⟩ | ⟨h1, h2, s', rfl, h3⟩⟩
  · exact ⟨hab, _, by rw [pushE_bad h1], by unfold pushV; rw [pushE_bad h1]; exact nilF _ _⟩
  · exact ⟨hab, _, by rw [pushE_full h1 h2], by unfold pushV; rw [pushE_full h1 h2]; exact nilF _ _⟩
  · exact ⟨hab, s', by rw [pushE_ok h1 h2], by unfold pushV; rw [pushE_ok h1 h2]; exact h3⟩
theorem check_t (h : Its H s l) : gCheck [s] H = some (.bool (checkB l), H) := by
  obtain ⟨p, c, ex, rfl, hl⟩ := h
  exact hl.check
end
/-! ### what the laws ask -/
theorem pushV_len {l : List Item} {x : Item} (h : pushE l = 0) : (pushV l x).length = l.length + 1 := by unfold pushV; rw [if_pos h, upL_length]; simp
theorem pushE_zero {l : List Item} (h : pushE l = 0) : Heap l ∧ l.length < 4096 := by
  unfold pushE at h
  split at h
  · rename_i hc
    split at h
    · simp at h
    · have := checkB_heap.mp hc
      exact ⟨this.1, by omega⟩
  · simp at h
theorem pushV_heap {l : List Item} {x : Item} (h : pushE l = 0) : Heap (pushV l x) := by unfold pushV; rw [if_pos h]; exact pushL_heap (pushE_zero h).1
end Go.Det.Q

/- Arguments. -/
namespace Go.Det.Q
open Go Go.Det Go.Proofs
set_option maxRecDepth 4000
set_option linter.unusedVariables false
set_option linter.unusedSimpArgs false
def i64ok (x : Int) : Prop := -9223372036854775808 ≤ x ∧ x ≤ 9223372036854775807
def u64ok (x : Int) : Prop := 0 ≤ x ∧ x ≤ 18446744073709551615
theorem i64_of {x : Int} (h : (Lit.int .i64 x).wf = true) : i64ok x := by
  simp [Lit.wf, IntKind.min, IntKind.max, IntKind.signed, IntKind.bits] at h
  exact h
structure Item.ok (x : Item) : Prop where
  a : i64ok x.a
  c : i64ok x.c
  s : u64ok x.s
  w : i64ok x.w
  h : i64ok x.h
  n : u64ok x.n
theorem i64_arg {H : DH} {d : DV} (h : TArg Try.prog H 2 d) : ∃ x, d = .int .i64 x ∧ i64ok x := by
  obtain ⟨x, e, hw⟩ := typed_int Try.underlying2 (targ_one (by rw [Try.underlying2]; simp) (by rw [Try.underlying2]; simp) h)
  cases e; exact ⟨x, rfl, i64_of hw⟩
theorem u8_arg {H : DH} {d : DV} (h : TArg Try.prog H 5 d) : ∃ x, d = .int .u8 x ∧ 0 ≤ x ∧ x ≤ 255 := by
  obtain ⟨x, e, hw⟩ := typed_int Try.underlying5 (targ_one (by rw [Try.underlying5]; simp) (by rw [Try.underlying5]; simp) h)
  cases e
  refine ⟨x, rfl, ?_⟩
  simp [Lit.wf, IntKind.min, IntKind.max, IntKind.signed, IntKind.bits] at hw
  omega
end Go.Det.Q

/- HeapFull: the law's own text. -/
namespace Go.Det.Q
open Go Go.Det Go.Proofs
set_option maxRecDepth 4000
set_option maxHeartbeats 4000000
set_option linter.unusedVariables false
set_option linter.unusedSimpArgs false
def fullI (i : Nat) : Item := ⟨i, 0, i, 0, 0, 0⟩
def fullL (n k : Nat) : List Item := (List.range n).map fun i => if i < k then fullI i else zeroI
theorem fullL_length (n k : Nat) : (fullL n k).length = n := by simp [fullL]
theorem fullL_at {n k i : Nat} (h : i < n) : (fullL n k)[i]? = some (if i < k then fullI i else zeroI) := by
  unfold fullL
  rw [List.getElem?_map, List.getElem?_range h]
  rfl
theorem fullL_zero (n : Nat) : (fullL n 0).map Item.cells = List.replicate n itemZero := by
  apply List.ext_getElem?
  intro i
  rw [List.getElem?_map, List.getElem?_replicate]
  split
  · rename_i h; rw [fullL_at h, if_neg (Nat.not_lt_zero _)]; rfl
  · rename_i h; rw [List.getElem?_eq_none (by rw [fullL_length]; omega)]; rfl
theorem fullL_step {n k : Nat} (h : k < n) : (fullL n k).set k (fullI k) = fullL n (k + 1) := by
  apply List.ext_getElem?
  intro i
  rw [List.getElem?_set]
  by_cases hi : i < n
  · rw [fullL_at hi, fullL_at hi]
    split
    · rename_i e; subst e; rw [if_pos (by rw [fullL_length]; exact h), if_pos (Nat.lt_succ_self _)]
    · rename_i e
      congr 1
      by_cases h1 : i < k
      · rw [if_pos h1, if_pos (by omega)]
      · rw [if_neg h1, if_neg (by omega)]
  · have h1 := fullL_length n k
    have h2 := fullL_length n (k + 1)
    rw [if_neg (by omega), List.getElem?_eq_none (by omega), List.getElem?_eq_none (by omega)]
theorem fullL_heap (n : Nat) : Heap (fullL n n) := by
  intro i h0 hi
  rw [fullL_length] at hi
  unfold okAt
  have e1 : g (fullL n n) i = fullI i := g_of (by rw [fullL_at hi, if_pos hi])
  have e2 : g (fullL n n) ((i - 1) / 2) = fullI ((i - 1) / 2) := g_of (by rw [fullL_at (by omega), if_pos (by omega)])
  rw [e1, e2]
  unfold ilt Item.key fullI
  rw [decide_eq_false_iff_not, cmpL_neg]
  simp only
  omega
theorem law3 (H : DH) (a b : Int) (hb : 0 ≤ b ∧ b ≤ 255) :
    CallWp Try.prog X4 3 [.int .i64 a, .int .u8 b] H (fun r H' => r = .bool true) := by
  obtain ⟨m, hm, hmod⟩ : ∃ m : Nat, m < 4 ∧ b.tmod 4 = (m : Int) := by
    rw [Int.tmod_eq_emod_of_nonneg (by omega)]
    exact ⟨(b % 4).toNat, by omega, by omega⟩
  have hv1 : DV.int .i64 (IntKind.i64.wrap (m : Int)) = .int .i64 (m : Int) := by rw [wrapI (by omega)]
  have hv2 : DV.int .i64 (IntKind.i64.wrap (4094 + (m : Int))) = .int .i64 ((4094 + m : Nat) : Int) := by rw [wrapI (by omega)]; rfl
  generalize hn : 4094 + m = n at hv2
  have hn1 : n ≤ 4097 := by omega
  refine enter rfl Try.func3 rfl Try.ntmps3 rfl ?_
  dsimp only [List.cons_append, List.nil_append, List.length_cons, List.length_nil, List.replicate_succ, List.replicate_zero, Nat.reduceAdd, Nat.reduceSub]
  repeat' (first
    | dsimp only [putD, DV.cells, DH.new_next, DH.set_next, List.length_cons, List.length_nil, Nat.reduceAdd, List.set_cons_zero, List.set_cons_succ, getD_zero, getD_succ, fieldAt_zero, fieldAt_succ, thenD, blockD, retR]
    | apply dwp_seq
    | apply dwp_region
    | apply ops_nil
    | (apply ops_plain; (· exact rfl))
    | (apply ops_on; (· exact rfl); (· exact rfl); (· (first | with_reducible assumption | with_reducible rfl | decide)))
    | (apply ops_off1; (· exact rfl); (· exact rfl); (· (first | with_reducible assumption | with_reducible rfl | decide)))
    | (apply ops_off0; (· exact rfl); (· exact rfl); (· (first | with_reducible assumption | with_reducible rfl | decide)))
    | (apply ops_offn; (· exact rfl); (· exact rfl))
    | (apply ops_split1; (· exact rfl); (· exact rfl); all_goals intro hb)
    | (apply ops_split0; (· exact rfl); (· exact rfl); all_goals intro hb)
    | (apply op_call; (· exact rfl); (· exact rfl); (· exact rfl); refine call_table (g := gLive) rfl rfl ?_)
    | (apply op_pick_t; (· exact rfl); (· exact rfl); (· (first | with_reducible assumption | with_reducible rfl | decide)); (· exact rfl))
    | (apply op_pick_f; (· exact rfl); (· exact rfl); (· (first | with_reducible assumption | with_reducible rfl | decide)); (· exact rfl))
    | (apply op_at; (· exact opD_rem rfl rfl rfl (by decide) hmod))
    | (apply op_told; (· exact rfl); (· exact hv1))
    | (apply op_told; (· exact rfl); (· exact hv2))
    | (refine op_make E23 rfl rfl rfl (Nat.le_refl _) (by unfold mostD; omega) ?_)
    | (apply op_load_at; (· exact rfl); (· exact rfl); (· repeat (first | with_reducible assumption | (with_reducible apply obj_here; with_reducible rfl) | with_reducible apply obj_set | (with_reducible apply obj_skip_lo; (· ((repeat (first | with_reducible assumption | with_reducible apply Lo.self | with_reducible apply Lo.new | with_reducible apply Lo.set | with_reducible apply Lo.self1 | with_reducible apply Lo.self2)); done))) | (with_reducible apply obj_past; (· ((first | with_reducible assumption | with_reducible apply ne_add1 | with_reducible apply ne_add1' | with_reducible apply ne_add2 | with_reducible apply ne_add2' | with_reducible apply ne_add12 | with_reducible apply ne_add21 | (with_reducible apply Lo.ne; (repeat (first | with_reducible assumption | with_reducible apply Lo.self | with_reducible apply Lo.new | with_reducible apply Lo.set | with_reducible apply Lo.self1 | with_reducible apply Lo.self2)); done) | (with_reducible apply Lo.ne1; (repeat (first | with_reducible assumption | with_reducible apply Lo.self | with_reducible apply Lo.new | with_reducible apply Lo.set | with_reducible apply Lo.self1 | with_reducible apply Lo.self2)); done) | (with_reducible apply Lo.ne'; (repeat (first | with_reducible assumption | with_reducible apply Lo.self | with_reducible apply Lo.new | with_reducible apply Lo.set | with_reducible apply Lo.self1 | with_reducible apply Lo.self2)); done) | (with_reducible apply Lo.ne1'; (repeat (first | with_reducible assumption | with_reducible apply Lo.self | with_reducible apply Lo.new | with_reducible apply Lo.set | with_reducible apply Lo.self1 | with_reducible apply Lo.self2)); done)); done))))); (· exact rfl); (· exact rfl))
    | (apply op_store_at; (· exact rfl); (· exact rfl); (· exact rfl); (· repeat (first | with_reducible assumption | (with_reducible apply obj_here; with_reducible rfl) | with_reducible apply obj_set | (with_reducible apply obj_skip_lo; (· ((repeat (first | with_reducible assumption | with_reducible apply Lo.self | with_reducible apply Lo.new | with_reducible apply Lo.set | with_reducible apply Lo.self1 | with_reducible apply Lo.self2)); done))) | (with_reducible apply obj_past; (· ((first | with_reducible assumption | with_reducible apply ne_add1 | with_reducible apply ne_add1' | with_reducible apply ne_add2 | with_reducible apply ne_add2' | with_reducible apply ne_add12 | with_reducible apply ne_add21 | (with_reducible apply Lo.ne; (repeat (first | with_reducible assumption | with_reducible apply Lo.self | with_reducible apply Lo.new | with_reducible apply Lo.set | with_reducible apply Lo.self1 | with_reducible apply Lo.self2)); done) | (with_reducible apply Lo.ne1; (repeat (first | with_reducible assumption | with_reducible apply Lo.self | with_reducible apply Lo.new | with_reducible apply Lo.set | with_reducible apply Lo.self1 | with_reducible apply Lo.self2)); done) | (with_reducible apply Lo.ne'; (repeat (first | with_reducible assumption | with_reducible apply Lo.self | with_reducible apply Lo.new | with_reducible apply Lo.set | with_reducible apply Lo.self1 | with_reducible apply Lo.self2)); done) | (with_reducible apply Lo.ne1'; (repeat (first | with_reducible assumption | with_reducible apply Lo.self | with_reducible apply Lo.new | with_reducible apply Lo.set | with_reducible apply Lo.self1 | with_reducible apply Lo.self2)); done)); done))))); (· exact rfl); (· exact rfl); (· exact rfl))
    | (apply op_at; (· exact opD_eqb rfl rfl rfl rfl))
    | (apply op_at; (· exact opD_neqb rfl rfl rfl rfl))
    | (apply op_at; (· exact rfl))
    | (apply dwp_cond_t; (· exact rfl); (· (first | with_reducible assumption | with_reducible rfl | decide)))
    | (apply dwp_cond_f; (· exact rfl); (· (first | with_reducible assumption | with_reducible rfl | decide)))
    | (refine dwp_cond rfl ?_ ?_ <;> intro hb)
    | apply dwp_block
    | apply dwp_skip
    | apply dwp_ret
    | apply dwp_exit
    | (refine ⟨_, rfl, ?_⟩)
    | fail)
  refine dwp_loop (fun st => ∃ (Hk : DH) (k : Nat), ∃ J : Nat → DV, (k ≤ n ∧ Above H Hk ∧ Lo Hk H.next ∧ Hk.obj H.next = some (.rows false 6 ((fullL n k).map Item.cells))) ∧ st = ⟨(.int .i64 a :: J 1 :: J 2 :: J 3 :: J 4 :: .bool true :: .sl (some (H.next, 0, 6)) n n true :: J 7 :: J 8 :: J 9 :: J 10 :: J 11 :: J 12 :: J 13 :: J 14 :: J 15 :: J 16 :: J 17 :: J 18 :: .int .i64 n :: .int .i64 (k : Int) :: J 21 :: J 22 :: J 23 :: J 24 :: J 25 :: J 26 :: J 27 :: J 28 :: J 29 :: J 30 :: J 31 :: J 32 :: J 33 :: J 34 :: J 35 :: J 36 :: J 37 :: J 38 :: J 39 :: J 40 :: J 41 :: J 42 :: J 43 :: J 44 :: J 45 :: J 46 :: J 47 :: J 48 :: J 49 :: J 50 :: J 51 :: J 52 :: J 53 :: J 54 :: J 55 :: J 56 :: J 57 :: J 58 :: J 59 :: J 60 :: J 61 :: J 62 :: J 63 :: J 64 :: J 65 :: J 66 :: J 67 :: J 68 :: J 69 :: J 70 :: J 71 :: J 72 :: J 73 :: J 74 :: J 75 :: J 76 :: J 77 :: J 78 :: J 79 :: J 80 :: J 81 :: J 82 :: J 83 :: J 84 :: J 85 :: J 86 :: J 87 :: J 88 :: J 89 :: []), Hk⟩) (fun st => n - kOf st 20) (⟨_, 0, junk_facts (⟨Nat.zero_le _, (Above.refl H).new _, Lo.self, by rw [fullL_zero]; exact obj_here rfl⟩) rfl rfl⟩) ?_
  rintro st ⟨Hk, k, J, ⟨hk, hab, hlo, hobj⟩, rfl⟩
  by_cases hlt : k < n
  · have hc : decide ((k : Int) < (n : Int)) = true := by simp [hlt]
    have hin : 0 ≤ (k : Int) ∧ (k : Int) < (n : Int) := by omega
    have hw := wrapNat (k := k) (by omega)
    have hvu : DV.int .u64 (IntKind.u64.wrap (k : Int)) = .int .u64 (k : Int) := by
      congr 1
      unfold IntKind.wrap
      simp [IntKind.signed, IntKind.bits]
      omega
    have hx : (fullL n k)[k]? = some zeroI := by rw [fullL_at hlt, if_neg (Nat.lt_irrefl _)]
    have hs : setRow ((fullL n k).map Item.cells) (0 + ((k : Int)).toNat) 0 (fullI k).cells = some ((fullL n (k + 1)).map Item.cells) := by
      have h := setRow_item (l := fullL n k) (W := []) (y := fullI k) hx
      rw [List.append_nil, List.append_nil, fullL_step hlt] at h
      rw [Int.toNat_natCast, Nat.zero_add]
      exact h
    repeat' (first
      | dsimp only [putD, DV.cells, DH.new_next, DH.set_next, List.length_cons, List.length_nil, Nat.reduceAdd, List.set_cons_zero, List.set_cons_succ, getD_zero, getD_succ, fieldAt_zero, fieldAt_succ, thenD, blockD, retR]
      | apply dwp_seq
      | apply dwp_region
      | apply ops_nil
      | (apply ops_plain; (· exact rfl))
      | (apply ops_on; (· exact rfl); (· exact rfl); (· (first | with_reducible assumption | with_reducible rfl | decide)))
      | (apply ops_off1; (· exact rfl); (· exact rfl); (· (first | with_reducible assumption | with_reducible rfl | decide)))
      | (apply ops_off0; (· exact rfl); (· exact rfl); (· (first | with_reducible assumption | with_reducible rfl | decide)))
      | (apply ops_offn; (· exact rfl); (· exact rfl))
      | (apply ops_split1; (· exact rfl); (· exact rfl); all_goals intro hb)
      | (apply ops_split0; (· exact rfl); (· exact rfl); all_goals intro hb)
      | (apply op_pick_t; (· exact rfl); (· exact rfl); (· (first | with_reducible assumption | with_reducible rfl | decide)); (· exact rfl))
      | (apply op_pick_f; (· exact rfl); (· exact rfl); (· (first | with_reducible assumption | with_reducible rfl | decide)); (· exact rfl))
      | (apply op_told; (· exact rfl); (· exact hvu))
      | (apply op_index_at; (· exact rfl); (· exact rfl); (· exact rfl); (· with_reducible exact hin); (· exact rfl); (· exact rfl))
      | (apply op_store_at; (· exact rfl); (· exact rfl); (· exact rfl); (· with_reducible exact hobj); (· exact hs); (· exact rfl); (· exact rfl))
      | (apply op_load_at; (· exact rfl); (· exact rfl); (· repeat (first | with_reducible assumption | (with_reducible apply obj_here; with_reducible rfl) | with_reducible apply obj_set | (with_reducible apply obj_skip_lo; (· ((repeat (first | with_reducible assumption | with_reducible apply Lo.self | with_reducible apply Lo.new | with_reducible apply Lo.set | with_reducible apply Lo.self1 | with_reducible apply Lo.self2)); done))) | (with_reducible apply obj_past; (· ((first | with_reducible assumption | with_reducible apply ne_add1 | with_reducible apply ne_add1' | with_reducible apply ne_add2 | with_reducible apply ne_add2' | with_reducible apply ne_add12 | with_reducible apply ne_add21 | (with_reducible apply Lo.ne; (repeat (first | with_reducible assumption | with_reducible apply Lo.self | with_reducible apply Lo.new | with_reducible apply Lo.set | with_reducible apply Lo.self1 | with_reducible apply Lo.self2)); done) | (with_reducible apply Lo.ne1; (repeat (first | with_reducible assumption | with_reducible apply Lo.self | with_reducible apply Lo.new | with_reducible apply Lo.set | with_reducible apply Lo.self1 | with_reducible apply Lo.self2)); done) | (with_reducible apply Lo.ne'; (repeat (first | with_reducible assumption | with_reducible apply Lo.self | with_reducible apply Lo.new | with_reducible apply Lo.set | with_reducible apply Lo.self1 | with_reducible apply Lo.self2)); done) | (with_reducible apply Lo.ne1'; (repeat (first | with_reducible assumption | with_reducible apply Lo.self | with_reducible apply Lo.new | with_reducible apply Lo.set | with_reducible apply Lo.self1 | with_reducible apply Lo.self2)); done)); done))))); (· exact rfl); (· exact rfl))
      | (apply op_store_at; (· exact rfl); (· exact rfl); (· exact rfl); (· repeat (first | with_reducible assumption | (with_reducible apply obj_here; with_reducible rfl) | with_reducible apply obj_set | (with_reducible apply obj_skip_lo; (· ((repeat (first | with_reducible assumption | with_reducible apply Lo.self | with_reducible apply Lo.new | with_reducible apply Lo.set | with_reducible apply Lo.self1 | with_reducible apply Lo.self2)); done))) | (with_reducible apply obj_past; (· ((first | with_reducible assumption | with_reducible apply ne_add1 | with_reducible apply ne_add1' | with_reducible apply ne_add2 | with_reducible apply ne_add2' | with_reducible apply ne_add12 | with_reducible apply ne_add21 | (with_reducible apply Lo.ne; (repeat (first | with_reducible assumption | with_reducible apply Lo.self | with_reducible apply Lo.new | with_reducible apply Lo.set | with_reducible apply Lo.self1 | with_reducible apply Lo.self2)); done) | (with_reducible apply Lo.ne1; (repeat (first | with_reducible assumption | with_reducible apply Lo.self | with_reducible apply Lo.new | with_reducible apply Lo.set | with_reducible apply Lo.self1 | with_reducible apply Lo.self2)); done) | (with_reducible apply Lo.ne'; (repeat (first | with_reducible assumption | with_reducible apply Lo.self | with_reducible apply Lo.new | with_reducible apply Lo.set | with_reducible apply Lo.self1 | with_reducible apply Lo.self2)); done) | (with_reducible apply Lo.ne1'; (repeat (first | with_reducible assumption | with_reducible apply Lo.self | with_reducible apply Lo.new | with_reducible apply Lo.set | with_reducible apply Lo.self1 | with_reducible apply Lo.self2)); done)); done))))); (· exact rfl); (· exact rfl); (· exact rfl))
      | (apply op_at; (· exact opD_eqb rfl rfl rfl rfl))
      | (apply op_at; (· exact opD_neqb rfl rfl rfl rfl))
      | (apply op_at; (· exact rfl))
      | (apply dwp_cond_t; (· exact rfl); (· (first | with_reducible assumption | with_reducible rfl | decide)))
      | (apply dwp_cond_f; (· exact rfl); (· (first | with_reducible assumption | with_reducible rfl | decide)))
      | (refine dwp_cond rfl ?_ ?_ <;> intro hb)
      | apply dwp_block
      | apply dwp_skip
      | apply dwp_ret
      | apply dwp_exit
      | (refine ⟨_, rfl, ?_⟩)
      | fail)
    rw [hw]
    refine ⟨⟨_, k + 1, junk_facts (⟨by omega, hab.set (Nat.le_refl _) _, hlo.set, obj_set⟩) rfl rfl⟩, ?_⟩
    show n - ((k + 1 : Nat) : Int).toNat < n - (k : Int).toNat
    omega
  · have hc : decide ((k : Int) < (n : Int)) = false := by simp; omega
    obtain rfl : k = n := by omega
    have hit : It Hk (some (H.next, 0, 6)) k true (fullL k k) := ⟨.at hlo.h hobj (by simp) (by rw [List.drop_zero, List.length_map, List.take_of_length_le (by simp)]), fun h => (by cases h), by rw [fullL_length]; unfold maxLen; omega, by rw [fullL_length]; exact Nat.le_refl _⟩
    have hlk := fullL_length k k
    have hits : Its Hk (.sl (some (H.next, 0, 6)) k k true) (fullL k k) := ⟨_, _, _, by rw [hlk], hit⟩
    have hhp := fullL_heap k
    by_cases hbig : 4096 < k
    · have cb : decide ((k : Int) > 4096) = true := by simp only [decide_eq_true_eq]; omega
      have hcb : checkB (fullL k k) = false := by unfold checkB; rw [hlk, decide_eq_false (by omega), Bool.and_false]
      have hV : pushV (fullL k k) ⟨a, 0, 0, 0, 0, 0⟩ = [] := by unfold pushV; rw [pushE_bad hcb]; rfl
      repeat' (first
        | dsimp only [putD, DV.cells, DH.new_next, DH.set_next, List.length_cons, List.length_nil, Nat.reduceAdd, List.set_cons_zero, List.set_cons_succ, getD_zero, getD_succ, fieldAt_zero, fieldAt_succ, thenD, blockD, retR]
        | apply dwp_seq
        | apply dwp_region
        | apply ops_nil
        | (apply ops_plain; (· exact rfl))
        | (apply ops_on; (· exact rfl); (· exact rfl); (· (first | with_reducible assumption | with_reducible rfl | decide)))
        | (apply ops_off1; (· exact rfl); (· exact rfl); (· (first | with_reducible assumption | with_reducible rfl | decide)))
        | (apply ops_off0; (· exact rfl); (· exact rfl); (· (first | with_reducible assumption | with_reducible rfl | decide)))
        | (apply ops_offn; (· exact rfl); (· exact rfl))
        | (apply ops_split1; (· exact rfl); (· exact rfl); all_goals intro hb)
        | (apply ops_split0; (· exact rfl); (· exact rfl); all_goals intro hb)
        | (apply op_call; (· exact rfl); (· exact rfl); (· exact rfl); refine (push_c (⟨a, 0, 0, 0, 0, 0⟩ : Item) hits (by omega)).mono ?_; rintro r H1 ⟨ab1, s1, rfl, i1⟩; rw [pushE_bad hcb]; obtain ⟨p1, c1, e1, rfl, it1, if1⟩ := i1; have hchk := check_t (hits.mono ab1); rw [hV])
        | (apply op_call; (· exact rfl); (· exact rfl); (· exact rfl); refine call_table (g := gCheck) rfl hchk ?_; rw [hcb])
        | (apply op_pick_t; (· exact rfl); (· exact rfl); (· (first | with_reducible assumption | with_reducible rfl | decide)); (· exact rfl))
        | (apply op_pick_f; (· exact rfl); (· exact rfl); (· (first | with_reducible assumption | with_reducible rfl | decide)); (· exact rfl))
        | (apply op_load_at; (· exact rfl); (· exact rfl); (· repeat (first | with_reducible assumption | (with_reducible apply obj_here; with_reducible rfl) | with_reducible apply obj_set | (with_reducible apply obj_skip_lo; (· ((repeat (first | with_reducible assumption | with_reducible apply Lo.self | with_reducible apply Lo.new | with_reducible apply Lo.set | with_reducible apply Lo.self1 | with_reducible apply Lo.self2)); done))) | (with_reducible apply obj_past; (· ((first | with_reducible assumption | with_reducible apply ne_add1 | with_reducible apply ne_add1' | with_reducible apply ne_add2 | with_reducible apply ne_add2' | with_reducible apply ne_add12 | with_reducible apply ne_add21 | (with_reducible apply Lo.ne; (repeat (first | with_reducible assumption | with_reducible apply Lo.self | with_reducible apply Lo.new | with_reducible apply Lo.set | with_reducible apply Lo.self1 | with_reducible apply Lo.self2)); done) | (with_reducible apply Lo.ne1; (repeat (first | with_reducible assumption | with_reducible apply Lo.self | with_reducible apply Lo.new | with_reducible apply Lo.set | with_reducible apply Lo.self1 | with_reducible apply Lo.self2)); done) | (with_reducible apply Lo.ne'; (repeat (first | with_reducible assumption | with_reducible apply Lo.self | with_reducible apply Lo.new | with_reducible apply Lo.set | with_reducible apply Lo.self1 | with_reducible apply Lo.self2)); done) | (with_reducible apply Lo.ne1'; (repeat (first | with_reducible assumption | with_reducible apply Lo.self | with_reducible apply Lo.new | with_reducible apply Lo.set | with_reducible apply Lo.self1 | with_reducible apply Lo.self2)); done)); done))))); (· exact rfl); (· exact rfl))
        | (apply op_store_at; (· exact rfl); (· exact rfl); (· exact rfl); (· repeat (first | with_reducible assumption | (with_reducible apply obj_here; with_reducible rfl) | with_reducible apply obj_set | (with_reducible apply obj_skip_lo; (· ((repeat (first | with_reducible assumption | with_reducible apply Lo.self | with_reducible apply Lo.new | with_reducible apply Lo.set | with_reducible apply Lo.self1 | with_reducible apply Lo.self2)); done))) | (with_reducible apply obj_past; (· ((first | with_reducible assumption | with_reducible apply ne_add1 | with_reducible apply ne_add1' | with_reducible apply ne_add2 | with_reducible apply ne_add2' | with_reducible apply ne_add12 | with_reducible apply ne_add21 | (with_reducible apply Lo.ne; (repeat (first | with_reducible assumption | with_reducible apply Lo.self | with_reducible apply Lo.new | with_reducible apply Lo.set | with_reducible apply Lo.self1 | with_reducible apply Lo.self2)); done) | (with_reducible apply Lo.ne1; (repeat (first | with_reducible assumption | with_reducible apply Lo.self | with_reducible apply Lo.new | with_reducible apply Lo.set | with_reducible apply Lo.self1 | with_reducible apply Lo.self2)); done) | (with_reducible apply Lo.ne'; (repeat (first | with_reducible assumption | with_reducible apply Lo.self | with_reducible apply Lo.new | with_reducible apply Lo.set | with_reducible apply Lo.self1 | with_reducible apply Lo.self2)); done) | (with_reducible apply Lo.ne1'; (repeat (first | with_reducible assumption | with_reducible apply Lo.self | with_reducible apply Lo.new | with_reducible apply Lo.set | with_reducible apply Lo.self1 | with_reducible apply Lo.self2)); done)); done))))); (· exact rfl); (· exact rfl); (· exact rfl))
        | (apply op_at; (· exact opD_eqb rfl rfl rfl rfl))
        | (apply op_at; (· exact opD_neqb rfl rfl rfl rfl))
        | (apply op_at; (· exact rfl))
        | (apply dwp_cond_t; (· exact rfl); (· (first | with_reducible assumption | with_reducible rfl | decide)))
        | (apply dwp_cond_f; (· exact rfl); (· (first | with_reducible assumption | with_reducible rfl | decide)))
        | (refine dwp_cond rfl ?_ ?_ <;> intro hb)
        | apply dwp_block
        | apply dwp_skip
        | apply dwp_ret
        | apply dwp_exit
        | (refine ⟨_, rfl, ?_⟩)
        | fail)
      rfl
    · have cb : decide ((k : Int) > 4096) = false := by simp only [decide_eq_false_iff_not]; omega
      have hcb : checkB (fullL k k) = true := checkB_heap.mpr ⟨hhp, by omega⟩
      by_cases h4 : k = 4096
      · have ce : ((k : Int) == 4096) = true := by simp [h4]
        have hP := pushE_full hcb (by rw [hlk]; exact h4)
        have hV : pushV (fullL k k) ⟨a, 0, 0, 0, 0, 0⟩ = [] := by unfold pushV; rw [hP]; rfl
        repeat' (first
          | dsimp only [putD, DV.cells, DH.new_next, DH.set_next, List.length_cons, List.length_nil, Nat.reduceAdd, List.set_cons_zero, List.set_cons_succ, getD_zero, getD_succ, fieldAt_zero, fieldAt_succ, thenD, blockD, retR]
          | apply dwp_seq
          | apply dwp_region
          | apply ops_nil
          | (apply ops_plain; (· exact rfl))
          | (apply ops_on; (· exact rfl); (· exact rfl); (· (first | with_reducible assumption | with_reducible rfl | decide)))
          | (apply ops_off1; (· exact rfl); (· exact rfl); (· (first | with_reducible assumption | with_reducible rfl | decide)))
          | (apply ops_off0; (· exact rfl); (· exact rfl); (· (first | with_reducible assumption | with_reducible rfl | decide)))
          | (apply ops_offn; (· exact rfl); (· exact rfl))
          | (apply ops_split1; (· exact rfl); (· exact rfl); all_goals intro hb)
          | (apply ops_split0; (· exact rfl); (· exact rfl); all_goals intro hb)
          | (apply op_call; (· exact rfl); (· exact rfl); (· exact rfl); refine (push_c (⟨a, 0, 0, 0, 0, 0⟩ : Item) hits (by omega)).mono ?_; rintro r H1 ⟨ab1, s1, rfl, i1⟩; rw [hP]; obtain ⟨p1, c1, e1, rfl, it1, if1⟩ := i1; have hchk := check_t (hits.mono ab1); rw [hV])
          | (apply op_call; (· exact rfl); (· exact rfl); (· exact rfl); refine call_table (g := gCheck) rfl hchk ?_; rw [hcb])
          | (apply op_pick_t; (· exact rfl); (· exact rfl); (· (first | with_reducible assumption | with_reducible rfl | decide)); (· exact rfl))
          | (apply op_pick_f; (· exact rfl); (· exact rfl); (· (first | with_reducible assumption | with_reducible rfl | decide)); (· exact rfl))
          | (apply op_load_at; (· exact rfl); (· exact rfl); (· repeat (first | with_reducible assumption | (with_reducible apply obj_here; with_reducible rfl) | with_reducible apply obj_set | (with_reducible apply obj_skip_lo; (· ((repeat (first | with_reducible assumption | with_reducible apply Lo.self | with_reducible apply Lo.new | with_reducible apply Lo.set | with_reducible apply Lo.self1 | with_reducible apply Lo.self2)); done))) | (with_reducible apply obj_past; (· ((first | with_reducible assumption | with_reducible apply ne_add1 | with_reducible apply ne_add1' | with_reducible apply ne_add2 | with_reducible apply ne_add2' | with_reducible apply ne_add12 | with_reducible apply ne_add21 | (with_reducible apply Lo.ne; (repeat (first | with_reducible assumption | with_reducible apply Lo.self | with_reducible apply Lo.new | with_reducible apply Lo.set | with_reducible apply Lo.self1 | with_reducible apply Lo.self2)); done) | (with_reducible apply Lo.ne1; (repeat (first | with_reducible assumption | with_reducible apply Lo.self | with_reducible apply Lo.new | with_reducible apply Lo.set | with_reducible apply Lo.self1 | with_reducible apply Lo.self2)); done) | (with_reducible apply Lo.ne'; (repeat (first | with_reducible assumption | with_reducible apply Lo.self | with_reducible apply Lo.new | with_reducible apply Lo.set | with_reducible apply Lo.self1 | with_reducible apply Lo.self2)); done) | (with_reducible apply Lo.ne1'; (repeat (first | with_reducible assumption | with_reducible apply Lo.self | with_reducible apply Lo.new | with_reducible apply Lo.set | with_reducible apply Lo.self1 | with_reducible apply Lo.self2)); done)); done))))); (· exact rfl); (· exact rfl))
          | (apply op_store_at; (· exact rfl); (· exact rfl); (· exact rfl); (· repeat (first | with_reducible assumption | (with_reducible apply obj_here; with_reducible rfl) | with_reducible apply obj_set | (with_reducible apply obj_skip_lo; (· ((repeat (first | with_reducible assumption | with_reducible apply Lo.self | with_reducible apply Lo.new | with_reducible apply Lo.set | with_reducible apply Lo.self1 | with_reducible apply Lo.self2)); done))) | (with_reducible apply obj_past; (· ((first | with_reducible assumption | with_reducible apply ne_add1 | with_reducible apply ne_add1' | with_reducible apply ne_add2 | with_reducible apply ne_add2' | with_reducible apply ne_add12 | with_reducible apply ne_add21 | (with_reducible apply Lo.ne; (repeat (first | with_reducible assumption | with_reducible apply Lo.self | with_reducible apply Lo.new | with_reducible apply Lo.set | with_reducible apply Lo.self1 | with_reducible apply Lo.self2)); done) | (with_reducible apply Lo.ne1; (repeat (first | with_reducible assumption | with_reducible apply Lo.self | with_reducible apply Lo.new | with_reducible apply Lo.set | with_reducible apply Lo.self1 | with_reducible apply Lo.self2)); done) | (with_reducible apply Lo.ne'; (repeat (first | with_reducible assumption | with_reducible apply Lo.self | with_reducible apply Lo.new | with_reducible apply Lo.set | with_reducible apply Lo.self1 | with_reducible apply Lo.self2)); done) | (with_reducible apply Lo.ne1'; (repeat (first | with_reducible assumption | with_reducible apply Lo.self | with_reducible apply Lo.new | with_reducible apply Lo.set | with_reducible apply Lo.self1 | with_reducible apply Lo.self2)); done)); done))))); (· exact rfl); (· exact rfl); (· exact rfl))
          | (apply op_at; (· exact opD_eqb rfl rfl rfl rfl))
          | (apply op_at; (· exact opD_neqb rfl rfl rfl rfl))
          | (apply op_at; (· exact rfl))
          | (apply dwp_cond_t; (· exact rfl); (· (first | with_reducible assumption | with_reducible rfl | decide)))
          | (apply dwp_cond_f; (· exact rfl); (· (first | with_reducible assumption | with_reducible rfl | decide)))
          | (refine dwp_cond rfl ?_ ?_ <;> intro hb)
          | apply dwp_block
          | apply dwp_skip
          | apply dwp_ret
          | apply dwp_exit
          | (refine ⟨_, rfl, ?_⟩)
          | fail)

      · have ce : ((k : Int) == 4096) = false := by simp only [beq_eq_false_iff_ne]; omega
        have hP := pushE_ok hcb (by rw [hlk]; exact h4)
        have hVl : (pushV (fullL k k) ⟨a, 0, 0, 0, 0, 0⟩).length = k + 1 := by rw [pushV_len hP, hlk]
        have hVc : checkB (pushV (fullL k k) ⟨a, 0, 0, 0, 0, 0⟩) = true := checkB_heap.mpr ⟨pushV_heap hP, by omega⟩
        have hvk : DV.int .i64 (IntKind.i64.wrap ((k : Int) + 1)) = .int .i64 ((k + 1 : Nat) : Int) := by rw [wrapNat (by omega)]
        have nk : (((k + 1 : Nat) : Int) == ((k + 1 : Nat) : Int)) = true := by simp
        repeat' (first
          | dsimp only [putD, DV.cells, DH.new_next, DH.set_next, List.length_cons, List.length_nil, Nat.reduceAdd, List.set_cons_zero, List.set_cons_succ, getD_zero, getD_succ, fieldAt_zero, fieldAt_succ, thenD, blockD, retR]
          | apply dwp_seq
          | apply dwp_region
          | apply ops_nil
          | (apply ops_plain; (· exact rfl))
          | (apply ops_on; (· exact rfl); (· exact rfl); (· (first | with_reducible assumption | with_reducible rfl | decide)))
          | (apply ops_off1; (· exact rfl); (· exact rfl); (· (first | with_reducible assumption | with_reducible rfl | decide)))
          | (apply ops_off0; (· exact rfl); (· exact rfl); (· (first | with_reducible assumption | with_reducible rfl | decide)))
          | (apply ops_offn; (· exact rfl); (· exact rfl))
          | (apply ops_split1; (· exact rfl); (· exact rfl); all_goals intro hb)
          | (apply ops_split0; (· exact rfl); (· exact rfl); all_goals intro hb)
          | (apply op_call; (· exact rfl); (· exact rfl); (· exact rfl); refine (push_c (⟨a, 0, 0, 0, 0, 0⟩ : Item) hits (by omega)).mono ?_; rintro r H1 ⟨ab1, s1, rfl, i1⟩; rw [hP]; obtain ⟨p1, c1, e1, rfl, it1, if1⟩ := i1; have hchk := it1.check; rw [hVl, hVc] at hchk; rw [hVl])
          | (apply op_call; (· exact rfl); (· exact rfl); (· exact rfl); refine call_table (g := gCheck) rfl hchk ?_)
          | (apply op_pick_t; (· exact rfl); (· exact rfl); (· (first | with_reducible assumption | with_reducible rfl | decide)); (· exact rfl))
          | (apply op_pick_f; (· exact rfl); (· exact rfl); (· (first | with_reducible assumption | with_reducible rfl | decide)); (· exact rfl))
          | (apply op_told; (· exact rfl); (· exact hvk))
          | (apply op_load_at; (· exact rfl); (· exact rfl); (· repeat (first | with_reducible assumption | (with_reducible apply obj_here; with_reducible rfl) | with_reducible apply obj_set | (with_reducible apply obj_skip_lo; (· ((repeat (first | with_reducible assumption | with_reducible apply Lo.self | with_reducible apply Lo.new | with_reducible apply Lo.set | with_reducible apply Lo.self1 | with_reducible apply Lo.self2)); done))) | (with_reducible apply obj_past; (· ((first | with_reducible assumption | with_reducible apply ne_add1 | with_reducible apply ne_add1' | with_reducible apply ne_add2 | with_reducible apply ne_add2' | with_reducible apply ne_add12 | with_reducible apply ne_add21 | (with_reducible apply Lo.ne; (repeat (first | with_reducible assumption | with_reducible apply Lo.self | with_reducible apply Lo.new | with_reducible apply Lo.set | with_reducible apply Lo.self1 | with_reducible apply Lo.self2)); done) | (with_reducible apply Lo.ne1; (repeat (first | with_reducible assumption | with_reducible apply Lo.self | with_reducible apply Lo.new | with_reducible apply Lo.set | with_reducible apply Lo.self1 | with_reducible apply Lo.self2)); done) | (with_reducible apply Lo.ne'; (repeat (first | with_reducible assumption | with_reducible apply Lo.self | with_reducible apply Lo.new | with_reducible apply Lo.set | with_reducible apply Lo.self1 | with_reducible apply Lo.self2)); done) | (with_reducible apply Lo.ne1'; (repeat (first | with_reducible assumption | with_reducible apply Lo.self | with_reducible apply Lo.new | with_reducible apply Lo.set | with_reducible apply Lo.self1 | with_reducible apply Lo.self2)); done)); done))))); (· exact rfl); (· exact rfl))
          | (apply op_store_at; (· exact rfl); (· exact rfl); (· exact rfl); (· repeat (first | with_reducible assumption | (with_reducible apply obj_here; with_reducible rfl) | with_reducible apply obj_set | (with_reducible apply obj_skip_lo; (· ((repeat (first | with_reducible assumption | with_reducible apply Lo.self | with_reducible apply Lo.new | with_reducible apply Lo.set | with_reducible apply Lo.self1 | with_reducible apply Lo.self2)); done))) | (with_reducible apply obj_past; (· ((first | with_reducible assumption | with_reducible apply ne_add1 | with_reducible apply ne_add1' | with_reducible apply ne_add2 | with_reducible apply ne_add2' | with_reducible apply ne_add12 | with_reducible apply ne_add21 | (with_reducible apply Lo.ne; (repeat (first | with_reducible assumption | with_reducible apply Lo.self | with_reducible apply Lo.new | with_reducible apply Lo.set | with_reducible apply Lo.self1 | with_reducible apply Lo.self2)); done) | (with_reducible apply Lo.ne1; (repeat (first | with_reducible assumption | with_reducible apply Lo.self | with_reducible apply Lo.new | with_reducible apply Lo.set | with_reducible apply Lo.self1 | with_reducible apply Lo.self2)); done) | (with_reducible apply Lo.ne'; (repeat (first | with_reducible assumption | with_reducible apply Lo.self | with_reducible apply Lo.new | with_reducible apply Lo.set | with_reducible apply Lo.self1 | with_reducible apply Lo.self2)); done) | (with_reducible apply Lo.ne1'; (repeat (first | with_reducible assumption | with_reducible apply Lo.self | with_reducible apply Lo.new | with_reducible apply Lo.set | with_reducible apply Lo.self1 | with_reducible apply Lo.self2)); done)); done))))); (· exact rfl); (· exact rfl); (· exact rfl))
          | (apply op_at; (· exact opD_eqb rfl rfl rfl rfl))
          | (apply op_at; (· exact opD_neqb rfl rfl rfl rfl))
          | (apply op_at; (· exact rfl))
          | (apply dwp_cond_t; (· exact rfl); (· (first | with_reducible assumption | with_reducible rfl | decide)))
          | (apply dwp_cond_f; (· exact rfl); (· (first | with_reducible assumption | with_reducible rfl | decide)))
          | (refine dwp_cond rfl ?_ ?_ <;> intro hb)
          | apply dwp_block
          | apply dwp_skip
          | apply dwp_ret
          | apply dwp_exit
          | (refine ⟨_, rfl, ?_⟩)
          | fail)
theorem row3 (H : DH) (hr : RO H) (hw : WF H) (xs : List DV) (hx : TArgs Try.prog H [2, 5] xs) : ∃ k H', callD Try.prog X4 k 3 xs H = some (.bool true, H') := by
  match xs, hx with
  | [a, b], ⟨h1, h2, _⟩ =>
    obtain ⟨a, rfl, _⟩ := i64_arg h1
    obtain ⟨b, rfl, hb⟩ := u8_arg h2
    obtain ⟨k, r, H', hk, rfl⟩ := (law3 H a b hb).ex
    exact ⟨k, H', hk⟩
end Go.Det.Q

/- HeapFull answers true, whatever it is handed; nothing is asked of the arguments but their types. -/
namespace Go.Proofs.Ytpgobchpnjgbdaa.heapFull
open Go Go.Det Go.Det.Q Go.ChangeShapes Go.WideShapes Go.ChangeAt Go.RowKit
set_option linter.unusedVariables false
set_option linter.unusedSimpArgs false
theorem own : ownKnob Try.prog.godebug = none := by kernel_rfl
theorem laidOut : laidOutB Try.prog = true := by kernel_rfl
set_option maxRecDepth 100000 in
theorem lifted (os : Os) (started : os.Started) (H : Type) (enc : TypeId × Value → H) :
    ReturnsInHanded {} Try.checked os 3 .any (Rows.heapFullSpec.pre6 enc Try.prog Try.f3 Rows.heapFullRow.domain false) (Rows.heapFullSpec.post enc Try.prog Try.f3 false true false false) := by
  exact row_law (C := Try.checked) (X := X4) (ts := [2, 5]) (rt := 4) (n := 5) own started (by kernel_rfl) Try.func3
    (ChangeSpec.witness6 (enc := enc) (C := Try.checked) false ⟨#[], #[.int .i64 0, .int .u8 0], []⟩ 8 (by kernel_rfl) (by kernel_rfl) (by kernel_rfl) (by kernel_rfl))
    rfl okX4 rfl Try.params3 rfl Try.underlying4 (by kernel_rfl) (by kernel_rfl) laidOut rfl
    (by intro ds h; match ds, h with | [_, _], _ => rfl)
    (fun H xs hr hw hx => row3 H hr hw xs hx)
theorem over : Rows.heapFullRow.holds Try.pinned (OpenSpec.ofChange Rows.heapFullSpec) :=
  OpenClaim.holds_of_wide 3 Try.f3 rfl rfl rfl rfl rfl rfl rfl ⟨rfl, rfl, rfl, rfl, rfl⟩ rfl rfl rfl rfl rfl (by kernel_rfl) Try.func3 (by kernel_rfl)
    (of_decide_eq_true (by kernel_rfl)) (by unfold Func.isWrapper; first | (rw [if_pos (by decide +kernel)]; kernel_rfl) | (rw [if_neg (by decide +kernel)]; exact ⟨rfl, rfl⟩))
    (fun os started H enc _ => lifted os started H enc)
theorem proved : Rows.HeapFullSaid := over
end Go.Proofs.Ytpgobchpnjgbdaa.heapFull
namespace Go.Proofs.Ytpgobchpnjgbdaa
/-- The row, under a short name, for the claim. -/
theorem heapFull_holds : Rows.HeapFullSaid := heapFull.proved
#print axioms heapFull_holds
end Go.Proofs.Ytpgobchpnjgbdaa
