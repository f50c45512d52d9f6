/- KernelDoes: the law's own text. -/
import Derived.Test.YtpgobchpnjgbdaaKDoes11
namespace Go.Det.Q
open Go Go.Det Go.Proofs
set_option maxRecDepth 4000
set_option maxHeartbeats 16000000
set_option linter.unusedVariables false
set_option linter.unusedSimpArgs false
theorem Kq.post_fine (q : Kq) (a k w h m : Int) : (q.post a k w h m).fine (q.rpost a k w h m) = true := Q.post_fine q.l q.nx q.now q.hor a k _ _
theorem Kq.cancel_fine (q : Kq) (t : Int) : (q.cancel t).fine (q.rcancel t) = true := Q.cancel_fine q.l q.nx q.now q.hor t
theorem Kq.step_fine (q : Kq) : q.step.fine q.rstep = true := Q.step_fine q.l q.nx q.now q.hor _
theorem kNew_same (x : Int) : (kNew x).same (kNew x) = true := by unfold Kq.same ksame; simp
theorem few_no {q : Kq} {A H : DH} {bs : List (Nat × DObj)} {fs : List (DH → Prop)} {s : Sv} {K : DV → DH → Prop} (hno : decide ((q.l.length : Int) ≤ 200) = false) (hB : Bx A H bs fs) (hm : InF (Is s.dv q.l) fs) (hk : K (.bool false) H) : CallWp Try.prog K5 35 [.agg [s.dv, .int .u64 q.nx, .int .i64 q.now, .int .i64 q.hor]] H K :=
  few_b hB hm (by rw [hno]; exact hk)
theorem few_yes {q : Kq} {A H : DH} {bs : List (Nat × DObj)} {fs : List (DH → Prop)} {s : Sv} {K : DV → DH → Prop} (hno : decide ((q.l.length : Int) ≤ 200) = true) (hB : Bx A H bs fs) (hm : InF (Is s.dv q.l) fs) (hk : K (.bool true) H) : CallWp Try.prog K5 35 [.agg [s.dv, .int .u64 q.nx, .int .i64 q.now, .int .i64 q.hor]] H K :=
  few_b hB hm (by rw [hno]; exact hk)
theorem law9 (H : DH) (s : Sv) (q : Kq) (a k w h m t : Int) (hl : Its H s.dv q.l) (hnx : u64ok q.nx) :
    CallWp Try.prog K5 9 [.agg [s.dv, .int .u64 q.nx, .int .i64 q.now, .int .i64 q.hor], .int .i64 a, .int .i64 k, .int .i64 w, .int .i64 h, .int .u64 m, .int .u64 t] H (fun r H' => r = .bool true) := by
  have hB : Bx H H [] [Is s.dv q.l] := Bx.init (fun f hf => by rw [List.mem_singleton] at hf; subst hf; exact is_init hl)
  by_cases h200 : decide ((q.l.length : Int) ≤ 200) = false
  · skip
    refine enter rfl Try.func9 rfl Try.ntmps9 rfl ?_
    dsimp only [List.cons_append, List.nil_append, List.length_cons, List.length_nil, List.replicate_succ, List.replicate_zero, Nat.reduceAdd, Nat.reduceSub]
    repeat' (first
      | dsimp only [putD, DV.cells, DH.new_next, DH.set_next, List.length_cons, List.length_nil, Nat.reduceAdd, List.set_cons_zero, List.set_cons_succ, getD_zero, getD_succ, fieldAt_zero, fieldAt_succ, thenD, blockD, retR]
      | apply dwp_seq
      | apply dwp_region
      | apply ops_nil
      | (apply ops_plain; (· exact rfl))
      | (apply op_call; (· exact rfl); (· exact rfl); (· exact rfl); refine call_table (g := gLive) rfl rfl ?_)
      | (apply op_call; (· exact rfl); (· exact rfl); (· exact rfl); (apply few_no h200; (· assumption); (· (repeat (first | with_reducible exact InF.here | with_reducible apply InF.there)))))
      | (apply bx_load0; (· exact rfl); (· exact rfl); (· assumption); (· (repeat (first | with_reducible exact At.here | with_reducible apply At.there))); (· (first | exact part48 _ _ _ _ | exact part26 _ | exact part26' _ _ _ _ _ _ | exact rfl)))
      | (apply bx_box; (· exact rfl); (· exact rfl); (· (first | (dsimp only [putD, DV.cells, DH.new_next, DH.set_next, List.length_cons, List.length_nil, Nat.reduceAdd, List.set_cons_zero, List.set_cons_succ, getD_zero, getD_succ, fieldAt_zero, fieldAt_succ, thenD, blockD, retR]; done) | (dsimp only [putD, DV.cells, DH.new_next, DH.set_next, List.length_cons, List.length_nil, Nat.reduceAdd, List.set_cons_zero, List.set_cons_succ, getD_zero, getD_succ, fieldAt_zero, fieldAt_succ, thenD, blockD, retR]; exact rfl) | exact rfl)); (· exact rfl); (· exact rfl); (· assumption); intro b1 H1 hB)
      | (apply op_at; (· exact rfl))
      | (apply dwp_cond_t; (· exact rfl); (· (first | with_reducible assumption | with_reducible rfl | decide)))
      | apply dwp_ret
      | (refine ⟨_, rfl, ?_⟩)
      | fail)
  · have h200' : decide ((q.l.length : Int) ≤ 200) = true := by simpa using h200
    have hn : q.l.length ≤ 200 := by simp only [decide_eq_true_eq] at h200'; omega
    have hq : q.ok := ⟨by omega, hnx⟩
    have hf1 := fun a k w h m => Kq.post_fine q a k w h m
    have hf2 := fun t => Kq.cancel_fine q t
    have hf3 := Kq.step_fine q
    have hf4 := kNew_same a
    have n1 : ∀ x : Int, (x != x) = false := fun x => bne_self_eq_false x
    have n2 : ∀ x : Int, (x == x) = true := fun x => beq_self_eq_true x
    refine enter rfl Try.func9 rfl Try.ntmps9 rfl ?_
    dsimp only [List.cons_append, List.nil_append, List.length_cons, List.length_nil, List.replicate_succ, List.replicate_zero, Nat.reduceAdd, Nat.reduceSub]
    repeat' (first
      | dsimp only [putD, DV.cells, DH.new_next, DH.set_next, List.length_cons, List.length_nil, Nat.reduceAdd, List.set_cons_zero, List.set_cons_succ, getD_zero, getD_succ, fieldAt_zero, fieldAt_succ, thenD, blockD, retR]
      | apply dwp_seq
      | apply dwp_region
      | apply ops_nil
      | (apply ops_plain; (· exact rfl))
      | (apply ops_on; (· exact rfl); (· exact rfl); (· (first | with_reducible assumption | with_reducible rfl | decide)))
      | (apply ops_off1; (· exact rfl); (· exact rfl); (· (first | with_reducible assumption | with_reducible rfl | decide)))
      | (apply ops_off0; (· exact rfl); (· exact rfl); (· (first | with_reducible assumption | with_reducible rfl | decide)))
      | (apply ops_split1; (· exact rfl); (· exact rfl); all_goals intro hb)
      | (apply ops_split0; (· exact rfl); (· exact rfl); all_goals intro hb)
      | (apply op_call; (· exact rfl); (· exact rfl); (· exact rfl); refine call_table (g := gLive) rfl rfl ?_)
      | (apply op_call; (· exact rfl); (· exact rfl); (· exact rfl); (apply few_yes h200'; (· assumption); (· (repeat (first | with_reducible exact InF.here | with_reducible apply InF.there)))))
      | (apply op_call; (· exact rfl); (· exact rfl); (· exact rfl); (apply copy_b; (· assumption); (· (repeat (first | with_reducible exact InF.here | with_reducible apply InF.there))); (· (repeat (first | assumption | apply Kq.post_ok | apply Kq.rpost_ok | apply Kq.cancel_ok | apply Kq.rcancel_ok | apply Kq.step_ok | apply Kq.rstep_ok | apply kNew_ok))); intro s1 H1 hB))
      | (apply op_call; (· exact rfl); (· exact rfl); (· exact rfl); (apply post_b; (· assumption); (· (repeat (first | with_reducible exact InF.here | with_reducible apply InF.there))); (· (repeat (first | assumption | apply Kq.post_ok | apply Kq.rpost_ok | apply Kq.cancel_ok | apply Kq.rcancel_ok | apply Kq.step_ok | apply Kq.rstep_ok | apply kNew_ok))); intro s1 H1 hB))
      | (apply op_call; (· exact rfl); (· exact rfl); (· exact rfl); (apply rpost_b; (· assumption); (· (repeat (first | with_reducible exact InF.here | with_reducible apply InF.there))); (· (repeat (first | assumption | apply Kq.post_ok | apply Kq.rpost_ok | apply Kq.cancel_ok | apply Kq.rcancel_ok | apply Kq.step_ok | apply Kq.rstep_ok | apply kNew_ok))); intro s1 H1 hB))
      | (apply op_call; (· exact rfl); (· exact rfl); (· exact rfl); (apply fine_b; (· assumption); (· (repeat (first | with_reducible exact InF.here | with_reducible apply InF.there))); (· (repeat (first | with_reducible exact InF.here | with_reducible apply InF.there))); (· (repeat (first | assumption | apply Kq.post_ok | apply Kq.rpost_ok | apply Kq.cancel_ok | apply Kq.rcancel_ok | apply Kq.step_ok | apply Kq.rstep_ok | apply kNew_ok))); (· (repeat (first | assumption | apply Kq.post_ok | apply Kq.rpost_ok | apply Kq.cancel_ok | apply Kq.rcancel_ok | apply Kq.step_ok | apply Kq.rstep_ok | apply kNew_ok)))))
      | (apply op_call; (· exact rfl); (· exact rfl); (· exact rfl); (apply cancel_b; (· assumption); (· (repeat (first | with_reducible exact InF.here | with_reducible apply InF.there))); (· (repeat (first | assumption | apply Kq.post_ok | apply Kq.rpost_ok | apply Kq.cancel_ok | apply Kq.rcancel_ok | apply Kq.step_ok | apply Kq.rstep_ok | apply kNew_ok))); intro s1 H1 hB))
      | (apply op_call; (· exact rfl); (· exact rfl); (· exact rfl); (apply rcancel_b; (· assumption); (· (repeat (first | with_reducible exact InF.here | with_reducible apply InF.there))); (· (repeat (first | assumption | apply Kq.post_ok | apply Kq.rpost_ok | apply Kq.cancel_ok | apply Kq.rcancel_ok | apply Kq.step_ok | apply Kq.rstep_ok | apply kNew_ok))); intro s1 H1 hB))
      | (apply op_call; (· exact rfl); (· exact rfl); (· exact rfl); (apply step_b; (· assumption); (· (repeat (first | with_reducible exact InF.here | with_reducible apply InF.there))); (· (repeat (first | assumption | apply Kq.post_ok | apply Kq.rpost_ok | apply Kq.cancel_ok | apply Kq.rcancel_ok | apply Kq.step_ok | apply Kq.rstep_ok | apply kNew_ok))); intro s1 H1 hB))
      | (apply op_call; (· exact rfl); (· exact rfl); (· exact rfl); (apply rstep_b; (· assumption); (· (repeat (first | with_reducible exact InF.here | with_reducible apply InF.there))); (· (repeat (first | assumption | apply Kq.post_ok | apply Kq.rpost_ok | apply Kq.cancel_ok | apply Kq.rcancel_ok | apply Kq.step_ok | apply Kq.rstep_ok | apply kNew_ok))); intro s1 H1 hB))
      | (apply op_call; (· exact rfl); (· exact rfl); (· exact rfl); (apply peek_b; (· assumption); (· (repeat (first | with_reducible exact InF.here | with_reducible apply InF.there)))))
      | (apply op_call; (· exact rfl); (· exact rfl); (· exact rfl); (apply rpeek_b; (· assumption); (· (repeat (first | with_reducible exact InF.here | with_reducible apply InF.there)))))
      | (apply op_call; (· exact rfl); (· exact rfl); (· exact rfl); (apply new_b; (· assumption); intro hB))
      | (apply op_call; (· exact rfl); (· exact rfl); (· exact rfl); (apply rnew_b; (· assumption); intro hB))
      | (apply op_call; (· exact rfl); (· exact rfl); (· exact rfl); (apply rsame_b; (· assumption); (· (repeat (first | with_reducible exact InF.here | with_reducible apply InF.there))); (· (repeat (first | with_reducible exact InF.here | with_reducible apply InF.there))); (· (repeat (first | assumption | apply Kq.post_ok | apply Kq.rpost_ok | apply Kq.cancel_ok | apply Kq.rcancel_ok | apply Kq.step_ok | apply Kq.rstep_ok | apply kNew_ok))); (· (repeat (first | assumption | apply Kq.post_ok | apply Kq.rpost_ok | apply Kq.cancel_ok | apply Kq.rcancel_ok | apply Kq.step_ok | apply Kq.rstep_ok | apply kNew_ok)))))
      | (apply op_call; (· exact rfl); (· exact rfl); (· exact rfl); (apply lsame_b; (· assumption); (· (repeat (first | with_reducible exact InF.here | with_reducible apply InF.there))); (· (repeat (first | with_reducible exact InF.here | with_reducible apply InF.there)))))
      | (apply op_pick_t; (· exact rfl); (· exact rfl); (· (first | with_reducible assumption | with_reducible rfl | decide)); (· exact rfl))
      | (apply op_pick_f; (· exact rfl); (· exact rfl); (· (first | with_reducible assumption | with_reducible rfl | decide)); (· exact rfl))
      | (apply op_at; (· exact opD_neql rfl rfl rfl (eqItem _ _)))
      | (apply op_at; (· exact opD_eql rfl rfl rfl (eqItem _ _)))
      | (apply bx_load0; (· exact rfl); (· exact rfl); (· assumption); (· (repeat (first | with_reducible exact At.here | with_reducible apply At.there))); (· (first | exact part48 _ _ _ _ | exact part26 _ | exact part26' _ _ _ _ _ _ | exact rfl)))
      | (apply bx_store0; (· exact rfl); (· exact rfl); (· exact rfl); (· assumption); (· (first | (dsimp only [putD, DV.cells, DH.new_next, DH.set_next, List.length_cons, List.length_nil, Nat.reduceAdd, List.set_cons_zero, List.set_cons_succ, getD_zero, getD_succ, fieldAt_zero, fieldAt_succ, thenD, blockD, retR]; done) | (dsimp only [putD, DV.cells, DH.new_next, DH.set_next, List.length_cons, List.length_nil, Nat.reduceAdd, List.set_cons_zero, List.set_cons_succ, getD_zero, getD_succ, fieldAt_zero, fieldAt_succ, thenD, blockD, retR]; exact rfl) | exact rfl)); (· (repeat (first | with_reducible exact Upd.here | with_reducible apply Upd.there))); (· exact rfl); (· exact rfl); (· exact rfl); (· exact rfl); intro H1 hB)
      | (apply bx_box; (· exact rfl); (· exact rfl); (· (first | (dsimp only [putD, DV.cells, DH.new_next, DH.set_next, List.length_cons, List.length_nil, Nat.reduceAdd, List.set_cons_zero, List.set_cons_succ, getD_zero, getD_succ, fieldAt_zero, fieldAt_succ, thenD, blockD, retR]; done) | (dsimp only [putD, DV.cells, DH.new_next, DH.set_next, List.length_cons, List.length_nil, Nat.reduceAdd, List.set_cons_zero, List.set_cons_succ, getD_zero, getD_succ, fieldAt_zero, fieldAt_succ, thenD, blockD, retR]; exact rfl) | exact rfl)); (· exact rfl); (· exact rfl); (· assumption); intro b1 H1 hB)
      | (apply bx_alloc; (· exact rfl); (· exact zero48); (· (first | (dsimp only [putD, DV.cells, DH.new_next, DH.set_next, List.length_cons, List.length_nil, Nat.reduceAdd, List.set_cons_zero, List.set_cons_succ, getD_zero, getD_succ, fieldAt_zero, fieldAt_succ, thenD, blockD, retR]; done) | (dsimp only [putD, DV.cells, DH.new_next, DH.set_next, List.length_cons, List.length_nil, Nat.reduceAdd, List.set_cons_zero, List.set_cons_succ, getD_zero, getD_succ, fieldAt_zero, fieldAt_succ, thenD, blockD, retR]; exact rfl) | exact rfl)); (· exact rfl); (· exact rfl); (· assumption); intro b1 H1 hB)
      | (apply bx_alloc; (· exact rfl); (· exact zero26); (· (first | (dsimp only [putD, DV.cells, DH.new_next, DH.set_next, List.length_cons, List.length_nil, Nat.reduceAdd, List.set_cons_zero, List.set_cons_succ, getD_zero, getD_succ, fieldAt_zero, fieldAt_succ, thenD, blockD, retR]; done) | (dsimp only [putD, DV.cells, DH.new_next, DH.set_next, List.length_cons, List.length_nil, Nat.reduceAdd, List.set_cons_zero, List.set_cons_succ, getD_zero, getD_succ, fieldAt_zero, fieldAt_succ, thenD, blockD, retR]; exact rfl) | exact rfl)); (· exact rfl); (· exact rfl); (· assumption); intro b1 H1 hB)
      | (apply op_at; (· exact rfl))
      | (apply dwp_cond_t; (· exact rfl); (· (first | with_reducible assumption | with_reducible rfl | decide)))
      | (apply dwp_cond_f; (· exact rfl); (· (first | with_reducible assumption | with_reducible rfl | decide)))
      | (refine dwp_cond rfl ?_ ?_ <;> intro hb)
      | apply dwp_skip
      | apply dwp_ret
      | (refine ⟨_, rfl, ?_⟩)
      | fail)
    all_goals first | (exfalso; simp_all; done) | simp_all
theorem kq_arg {H : DH} (hw : WF H) {d : DV} (h : TArg Try.prog H 48 d) : ∃ (s : Sv) (q : Kq), d = .agg [s.dv, .int .u64 q.nx, .int .i64 q.now, .int .i64 q.hor] ∧ Its H s.dv q.l ∧ (∀ x ∈ q.l, x.ok) ∧ u64ok q.nx ∧ i64ok q.now ∧ i64ok q.hor := by
  obtain ⟨p, c, ex, l, nx, now, hor, rfl, hl, h1, h2, h3, h4⟩ := kern_arg hw h
  exact ⟨⟨p, l.length, c, ex⟩, ⟨l, nx, now, hor⟩, rfl, ⟨p, c, ex, rfl, hl⟩, h1, h2, h3, h4⟩
theorem row9 (H : DH) (hr : RO H) (hw : WF H) (xs : List DV) (hx : TArgs Try.prog H [48, 2, 3, 3, 3, 24, 24] xs) : ∃ k H', callD Try.prog K5 k 9 xs H = some (.bool true, H') := by
  match xs, hx with
  | [a, b, c, d, e, f, i], ⟨h1, h2, h3, h4, h5, h6, h7, _⟩ =>
    obtain ⟨s, q, rfl, hl, _, hnx, _⟩ := kq_arg hw h1
    obtain ⟨a, rfl, _⟩ := i64_arg h2
    obtain ⟨k, rfl, _⟩ := int_arg h3
    obtain ⟨w, rfl, _⟩ := int_arg h4
    obtain ⟨h, rfl, _⟩ := int_arg h5
    obtain ⟨m, rfl, _⟩ := u64_arg h6
    obtain ⟨t, rfl, _⟩ := u64_arg h7
    obtain ⟨k, r, H', hk, rfl⟩ := (law9 H s q a k w h m t hl hnx).ex
    exact ⟨k, H', hk⟩
end Go.Det.Q

/- KernelDoes answers true, whatever it is handed; nothing is asked of the arguments but their types. -/
namespace Go.Proofs.Ytpgobchpnjgbdaa.kernelDoes
open Go Go.Det Go.Det.Q Go.ChangeShapes Go.WideShapes Go.ChangeAt Go.RowKit
set_option linter.unusedVariables false
set_option linter.unusedSimpArgs false
theorem own : ownKnob Try.prog.godebug = none := by kernel_rfl
theorem laidOut : laidOutB Try.prog = true := by kernel_rfl
set_option maxRecDepth 100000 in
theorem lifted (os : Os) (started : os.Started) (H : Type) (enc : TypeId × Value → H) :
    ReturnsInHanded {} Try.checked os 9 .any (Rows.kernelDoesSpec.pre6 enc Try.prog Try.f9 Rows.kernelDoesRow.domain false) (Rows.kernelDoesSpec.post enc Try.prog Try.f9 false true false false) := by
  exact row_law (C := Try.checked) (X := K5) (ts := [48, 2, 3, 3, 3, 24, 24]) (rt := 4) (n := 5) own started (by kernel_rfl) Try.func9
    (ChangeSpec.witness6 (enc := enc) (C := Try.checked) false ⟨#[], #[.agg #[.slice none 0 0, .int .u64 0, .int .i64 0, .int .i64 0], .int .i64 0, .int .i64 0, .int .i64 0, .int .i64 0, .int .u64 0, .int .u64 0], []⟩ 8 (by kernel_rfl) (by kernel_rfl) (by kernel_rfl) (by kernel_rfl))
    rfl okK5 rfl Try.params9 rfl Try.underlying4 (by kernel_rfl) (by kernel_rfl) laidOut rfl
    (by intro ds h; match ds, h with | [_, _, _, _, _, _, _], _ => rfl)
    (fun H xs hr hw hx => row9 H hr hw xs hx)
theorem over : Rows.kernelDoesRow.holds Try.pinned (OpenSpec.ofChange Rows.kernelDoesSpec) :=
  OpenClaim.holds_of_wide 9 Try.f9 rfl rfl rfl rfl rfl rfl rfl ⟨rfl, rfl, rfl, rfl, rfl⟩ rfl rfl rfl rfl rfl (by kernel_rfl) Try.func9 (by kernel_rfl)
    (of_decide_eq_true (by kernel_rfl)) (by unfold Func.isWrapper; first | (rw [if_pos (by decide +kernel)]; kernel_rfl) | (rw [if_neg (by decide +kernel)]; exact ⟨rfl, rfl⟩))
    (fun os started H enc _ => lifted os started H enc)
theorem proved : Rows.KernelDoesSaid := over
end Go.Proofs.Ytpgobchpnjgbdaa.kernelDoes
namespace Go.Proofs.Ytpgobchpnjgbdaa
/-- The row, under a short name, for the claim. -/
theorem kernelDoes_holds : Rows.KernelDoesSaid := kernelDoes.proved
#print axioms kernelDoes_holds
end Go.Proofs.Ytpgobchpnjgbdaa
