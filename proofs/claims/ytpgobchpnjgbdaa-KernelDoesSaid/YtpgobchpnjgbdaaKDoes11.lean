/- Kernels: the reference's Post. -/
import Derived.Test.YtpgobchpnjgbdaaKDoes10
namespace Go.Det.Q
open Go Go.Det Go.Proofs
set_option maxRecDepth 4000
set_option maxHeartbeats 8000000
set_option linter.unusedVariables false
set_option linter.unusedSimpArgs false
theorem set_other {H : DH} {l m : Nat} {o : Option DObj} (h : l ≠ m) : (H.set m o).obj l = H.obj l := by simp only [DH.set]; rw [if_neg h]
theorem obj_new_lt {H : DH} {l : Nat} {o : DObj} (h : l < H.next) : (H.new o).obj l = H.obj l := by simp only [DH.new]; rw [if_neg (Nat.ne_of_lt h)]
theorem obj_setA {H : DH} {l : Nat} {o : Option DObj} : (H.set l o).obj l = o := by simp [DH.set]
structure AfterC (H H1 : DH) (rx rb : DObj) : Prop where
  aa : Above H H1
  ob : H1.obj (H.next + 1) = some rb
  ox : H1.obj H.next = some rx
  lt : H.next + 1 < H1.next
theorem AfterC.of {H H1 : DH} {rx rb : DObj} (ab : Above ((H.new rx).new rb) H1) : AfterC H H1 rx rb :=
  ⟨(((Above.refl H).new _).new _).trans ab, ab.obj (l := H.next + 1) (Nat.lt_succ_self _) (obj_here rfl), ab.obj (l := H.next) (Nat.lt_succ_of_lt (Nat.lt_succ_self _)) (obj_skip (Nat.ne_of_lt (Nat.lt_succ_self _)) (obj_here rfl)), Nat.lt_of_lt_of_le (Nat.lt_succ_self _) ab.le⟩
section
variable {H H1 : DH} {rx rb : DObj} (F : AfterC H H1 rx rb) {o d : DObj} {o' : Option DObj}
theorem aboveQ : Above H1 ((H1.new o).set H1.next o') := ((Above.refl _).new _).set (Nat.le_refl _) _
theorem aboveQ' : Above H1 (((H1.new o).set H1.next o').new d) := aboveQ.new _
theorem oc5 : (((H1.new o).set H1.next o').new d).obj H1.next = o' := by
  rw [obj_new_lt (Nat.lt_succ_self _)]; exact obj_setA
theorem ltc5 : H1.next < (((H1.new o).set H1.next o').new d).next := Nat.lt_succ_of_lt (Nat.lt_succ_self _)
include F
theorem AfterC.ob5 : (((H1.new o).set H1.next o').new d).obj (H.next + 1) = some rb := by
  rw [obj_new_lt (Nat.lt_succ_of_lt F.lt), set_other (Nat.ne_of_lt F.lt), obj_new_lt F.lt]; exact F.ob
theorem AfterC.ox5 : (((H1.new o).set H1.next o').new d).obj H.next = some rx := by
  have h := Nat.lt_of_succ_lt F.lt
  rw [obj_new_lt (Nat.lt_succ_of_lt h), set_other (Nat.ne_of_lt h), obj_new_lt h]; exact F.ox
theorem AfterC.ltb5 : H.next + 1 < (((H1.new o).set H1.next o').new d).next := Nat.lt_trans F.lt ltc5
end
section
variable (H : DH) (p : Option (Nat × Nat × Nat)) (c : Nat) (ex : Bool) (l : List Item) (nx now hor a k w h m : Int) (hl : It H p c ex l) (hn : l.length ≤ 1000000) (hnx : 0 ≤ nx ∧ nx ≤ 18446744073709551615)
include hl hn hnx in
theorem post38 : CallWp Try.prog K5 38 [.agg [.sl p l.length c ex, .int .u64 nx, .int .i64 now, .int .i64 hor], .int .i64 a, .int .i64 k, .int .i64 w, .int .i64 h, .int .u64 m] H (PostS H l (putL (sortL l) ⟨a, k, nx, w, h, m⟩) nx now hor a k) := by
  have hab2 : ∀ {a b : DObj}, Above H ((H.new a).new b) := fun {a b} => ((Above.refl H).new _).new _
  have hob2 : ∀ {a b : DObj}, ((H.new a).new b).obj (H.next + 1) = some b := fun {a b} => obj_here rfl
  have hox2 : ∀ {a b : DObj}, ((H.new a).new b).obj H.next = some a := fun {a b} => obj_skip (Nat.ne_of_lt (Nat.lt_succ_self _)) (obj_here rfl)
  have lt2 : ∀ {a b : DObj}, H.next + 1 < ((H.new a).new b).next := fun {a b} => Nat.lt_succ_self _
  cases hk : kOk l nx now hor with
  | false =>
    refine enter rfl Try.func38 rfl Try.ntmps38 rfl ?_
    dsimp only [List.cons_append, List.nil_append, List.length_cons, List.length_nil, List.replicate_succ, List.replicate_zero, Nat.reduceAdd, Nat.reduceSub]
    repeat' (first
      | dsimp only [putD, DV.cells, DH.new_next, DH.set_next, List.length_cons, List.length_nil, Nat.reduceAdd, List.set_cons_zero, List.set_cons_succ, getD_zero, getD_succ, fieldAt_zero, fieldAt_succ, thenD, blockD, retR]
      | (refine ⟨_, resOf_ctt (loadD_at rfl (by repeat (first | with_reducible assumption | (with_reducible apply obj_here; with_reducible rfl) | with_reducible apply obj_set | (with_reducible apply obj_skip_lo; (· ((repeat (first | with_reducible assumption | with_reducible apply Lo.self | with_reducible apply Lo.new | with_reducible apply Lo.set | with_reducible apply Lo.self1 | with_reducible apply Lo.self2)); done))) | (with_reducible apply obj_past; (· ((first | with_reducible assumption | with_reducible apply ne_add1 | with_reducible apply ne_add1' | with_reducible apply ne_add2 | with_reducible apply ne_add2' | with_reducible apply ne_add12 | with_reducible apply ne_add21 | (with_reducible apply Lo.ne; (repeat (first | with_reducible assumption | with_reducible apply Lo.self | with_reducible apply Lo.new | with_reducible apply Lo.set | with_reducible apply Lo.self1 | with_reducible apply Lo.self2)); done) | (with_reducible apply Lo.ne1; (repeat (first | with_reducible assumption | with_reducible apply Lo.self | with_reducible apply Lo.new | with_reducible apply Lo.set | with_reducible apply Lo.self1 | with_reducible apply Lo.self2)); done) | (with_reducible apply Lo.ne'; (repeat (first | with_reducible assumption | with_reducible apply Lo.self | with_reducible apply Lo.new | with_reducible apply Lo.set | with_reducible apply Lo.self1 | with_reducible apply Lo.self2)); done) | (with_reducible apply Lo.ne1'; (repeat (first | with_reducible assumption | with_reducible apply Lo.self | with_reducible apply Lo.new | with_reducible apply Lo.set | with_reducible apply Lo.self1 | with_reducible apply Lo.self2)); done)); done))) | exact obj_here rfl)) rfl rfl), ?_⟩)
      | apply dwp_seq
      | apply dwp_region
      | apply ops_nil
      | (apply ops_plain; (· exact rfl))
      | (apply ops_off0; (· exact rfl); (· exact rfl); (· (first | with_reducible assumption | with_reducible rfl | decide)))
      | (apply op_call; (· exact rfl); (· exact rfl); (· exact rfl); refine (copy36 _ p c ex l nx now hor (hl.mono hab2) hn).mono ?_; rintro r H1 ⟨ab1, s1, rfl, p1, c1, e1, rfl, it1, if1⟩; have i1 : ItsF _ H1 (.sl p1 l.length c1 e1) l := ⟨p1, c1, e1, rfl, it1, if1⟩; have F := AfterC.of ab1; have aa1 := F.aa; have hob1 := F.ob; have hox1 := F.ox; have lt1 := F.lt; have hlb1 : Lo H1 (H.next + 1) := lo lt1; have hlx1 : Lo H1 H.next := lo (Nat.lt_of_succ_lt lt1); have hab4 : ∀ {o o'}, Above H ((H1.new o).set H1.next o') := fun {o o'} => aa1.trans aboveQ; have hab5 : ∀ {o o' d}, Above H (((H1.new o).set H1.next o').new d) := fun {o o' d} => aa1.trans aboveQ')
      | (apply op_call; (· exact rfl); (· exact rfl); (· exact rfl); refine call_table (g := gKc) rfl (kc_t (⟨_, _, _, rfl, hl.mono (by first | exact hab5 | exact hab4)⟩ : Its _ (.sl p l.length c ex) l)) ?_; rw [hk, if_neg Bool.false_ne_true])
      | (apply op_pick_t; (· exact rfl); (· exact rfl); (· (first | with_reducible assumption | with_reducible rfl | decide)); (· exact rfl))
      | (apply op_store_at; (· exact rfl); (· exact rfl); (· exact rfl); (· exact obj_here rfl); (· exact rfl); (· exact rfl); (· exact rfl))
      | (apply op_load_at; (· exact rfl); (· exact rfl); (· repeat (first | with_reducible assumption | (with_reducible apply obj_here; with_reducible rfl) | with_reducible apply obj_set | (with_reducible apply obj_skip_lo; (· ((repeat (first | with_reducible assumption | with_reducible apply Lo.self | with_reducible apply Lo.new | with_reducible apply Lo.set | with_reducible apply Lo.self1 | with_reducible apply Lo.self2)); done))) | (with_reducible apply obj_past; (· ((first | with_reducible assumption | with_reducible apply ne_add1 | with_reducible apply ne_add1' | with_reducible apply ne_add2 | with_reducible apply ne_add2' | with_reducible apply ne_add12 | with_reducible apply ne_add21 | (with_reducible apply Lo.ne; (repeat (first | with_reducible assumption | with_reducible apply Lo.self | with_reducible apply Lo.new | with_reducible apply Lo.set | with_reducible apply Lo.self1 | with_reducible apply Lo.self2)); done) | (with_reducible apply Lo.ne1; (repeat (first | with_reducible assumption | with_reducible apply Lo.self | with_reducible apply Lo.new | with_reducible apply Lo.set | with_reducible apply Lo.self1 | with_reducible apply Lo.self2)); done) | (with_reducible apply Lo.ne'; (repeat (first | with_reducible assumption | with_reducible apply Lo.self | with_reducible apply Lo.new | with_reducible apply Lo.set | with_reducible apply Lo.self1 | with_reducible apply Lo.self2)); done) | (with_reducible apply Lo.ne1'; (repeat (first | with_reducible assumption | with_reducible apply Lo.self | with_reducible apply Lo.new | with_reducible apply Lo.set | with_reducible apply Lo.self1 | with_reducible apply Lo.self2)); done)); done))) | exact obj_here rfl)); (· exact rfl); (· exact rfl))
      | (apply op_store_at; (· exact rfl); (· exact rfl); (· exact rfl); (· repeat (first | with_reducible assumption | (with_reducible apply obj_here; with_reducible rfl) | with_reducible apply obj_set | (with_reducible apply obj_skip_lo; (· ((repeat (first | with_reducible assumption | with_reducible apply Lo.self | with_reducible apply Lo.new | with_reducible apply Lo.set | with_reducible apply Lo.self1 | with_reducible apply Lo.self2)); done))) | (with_reducible apply obj_past; (· ((first | with_reducible assumption | with_reducible apply ne_add1 | with_reducible apply ne_add1' | with_reducible apply ne_add2 | with_reducible apply ne_add2' | with_reducible apply ne_add12 | with_reducible apply ne_add21 | (with_reducible apply Lo.ne; (repeat (first | with_reducible assumption | with_reducible apply Lo.self | with_reducible apply Lo.new | with_reducible apply Lo.set | with_reducible apply Lo.self1 | with_reducible apply Lo.self2)); done) | (with_reducible apply Lo.ne1; (repeat (first | with_reducible assumption | with_reducible apply Lo.self | with_reducible apply Lo.new | with_reducible apply Lo.set | with_reducible apply Lo.self1 | with_reducible apply Lo.self2)); done) | (with_reducible apply Lo.ne'; (repeat (first | with_reducible assumption | with_reducible apply Lo.self | with_reducible apply Lo.new | with_reducible apply Lo.set | with_reducible apply Lo.self1 | with_reducible apply Lo.self2)); done) | (with_reducible apply Lo.ne1'; (repeat (first | with_reducible assumption | with_reducible apply Lo.self | with_reducible apply Lo.new | with_reducible apply Lo.set | with_reducible apply Lo.self1 | with_reducible apply Lo.self2)); done)); done))) | exact obj_here rfl)); (· exact rfl); (· exact rfl); (· exact rfl))
      | (apply op_at; (· exact rfl))
      | (apply dwp_cond_t; (· exact rfl); (· (first | with_reducible assumption | with_reducible rfl | decide)))
      | apply dwp_ret
      | fail)
    any_goals first | exact post_bad (by unfold postE; simp only [*, Bool.true_or, Bool.or_true, Bool.false_or, Bool.or_false, Bool.not_true, Bool.not_false, if_true, Bool.false_eq_true, if_false]) (by decide) (Above.set (by first | exact hab5 | exact hab4) (Nat.le_succ _) _) (((i1.mono (by first | exact aboveQ' | exact aboveQ)).set lt2).older hab2.le) | skip
  | true =>
    have hcb := kOk_check hk
    cases hM : (nx == 18446744073709551615) with
    | true =>
      have hP : l.length = 4096 ∨ l.length ≠ 4096 := by omega
      refine enter rfl Try.func38 rfl Try.ntmps38 rfl ?_
      dsimp only [List.cons_append, List.nil_append, List.length_cons, List.length_nil, List.replicate_succ, List.replicate_zero, Nat.reduceAdd, Nat.reduceSub]
      repeat' (first
        | dsimp only [putD, DV.cells, DH.new_next, DH.set_next, List.length_cons, List.length_nil, Nat.reduceAdd, List.set_cons_zero, List.set_cons_succ, getD_zero, getD_succ, fieldAt_zero, fieldAt_succ, thenD, blockD, retR]
        | (refine ⟨_, resOf_ctt (loadD_at rfl (by repeat (first | with_reducible assumption | (with_reducible apply obj_here; with_reducible rfl) | with_reducible apply obj_set | (with_reducible apply obj_skip_lo; (· ((repeat (first | with_reducible assumption | with_reducible apply Lo.self | with_reducible apply Lo.new | with_reducible apply Lo.set | with_reducible apply Lo.self1 | with_reducible apply Lo.self2)); done))) | (with_reducible apply obj_past; (· ((first | with_reducible assumption | with_reducible apply ne_add1 | with_reducible apply ne_add1' | with_reducible apply ne_add2 | with_reducible apply ne_add2' | with_reducible apply ne_add12 | with_reducible apply ne_add21 | (with_reducible apply Lo.ne; (repeat (first | with_reducible assumption | with_reducible apply Lo.self | with_reducible apply Lo.new | with_reducible apply Lo.set | with_reducible apply Lo.self1 | with_reducible apply Lo.self2)); done) | (with_reducible apply Lo.ne1; (repeat (first | with_reducible assumption | with_reducible apply Lo.self | with_reducible apply Lo.new | with_reducible apply Lo.set | with_reducible apply Lo.self1 | with_reducible apply Lo.self2)); done) | (with_reducible apply Lo.ne'; (repeat (first | with_reducible assumption | with_reducible apply Lo.self | with_reducible apply Lo.new | with_reducible apply Lo.set | with_reducible apply Lo.self1 | with_reducible apply Lo.self2)); done) | (with_reducible apply Lo.ne1'; (repeat (first | with_reducible assumption | with_reducible apply Lo.self | with_reducible apply Lo.new | with_reducible apply Lo.set | with_reducible apply Lo.self1 | with_reducible apply Lo.self2)); done)); done))) | exact obj_here rfl)) rfl rfl), ?_⟩)
        | apply dwp_seq
        | apply dwp_region
        | apply ops_nil
        | (apply ops_plain; (· exact rfl))
        | (apply ops_on; (· exact rfl); (· exact rfl); (· (first | with_reducible assumption | with_reducible rfl | decide)))
        | (apply ops_off0; (· exact rfl); (· exact rfl); (· (first | with_reducible assumption | with_reducible rfl | decide)))
        | (apply ops_split0; (· exact rfl); (· exact rfl); all_goals intro hb)
        | (apply op_call; (· exact rfl); (· exact rfl); (· exact rfl); refine (copy36 _ p c ex l nx now hor (hl.mono hab2) hn).mono ?_; rintro r H1 ⟨ab1, s1, rfl, p1, c1, e1, rfl, it1, if1⟩; have i1 : ItsF _ H1 (.sl p1 l.length c1 e1) l := ⟨p1, c1, e1, rfl, it1, if1⟩; have F := AfterC.of ab1; have aa1 := F.aa; have hob1 := F.ob; have hox1 := F.ox; have lt1 := F.lt; have hlb1 : Lo H1 (H.next + 1) := lo lt1; have hlx1 : Lo H1 H.next := lo (Nat.lt_of_succ_lt lt1); have hab4 : ∀ {o o'}, Above H ((H1.new o).set H1.next o') := fun {o o'} => aa1.trans aboveQ; have hab5 : ∀ {o o' d}, Above H (((H1.new o).set H1.next o').new d) := fun {o o' d} => aa1.trans aboveQ')
        | (apply op_call; (· exact rfl); (· exact rfl); (· exact rfl); refine call_table (g := gKc) rfl (kc_t (⟨_, _, _, rfl, hl.mono (by first | exact hab5 | exact hab4)⟩ : Its _ (.sl p l.length c ex) l)) ?_; rw [hk, if_pos rfl])
        | (apply op_call; (· exact rfl); (· exact rfl); (· exact rfl); refine call_table (g := gMay2) rfl (may2_t (obj_here rfl)) ?_)
        | (apply op_pick_t; (· exact rfl); (· exact rfl); (· (first | with_reducible assumption | with_reducible rfl | decide)); (· exact rfl))
        | (apply op_pick_f; (· exact rfl); (· exact rfl); (· (first | with_reducible assumption | with_reducible rfl | decide)); (· exact rfl))
        | (apply op_store_at; (· exact rfl); (· exact rfl); (· exact rfl); (· exact obj_here rfl); (· exact rfl); (· exact rfl); (· exact rfl))
        | (apply op_load_at; (· exact rfl); (· exact rfl); (· repeat (first | with_reducible assumption | (with_reducible apply obj_here; with_reducible rfl) | with_reducible apply obj_set | (with_reducible apply obj_skip_lo; (· ((repeat (first | with_reducible assumption | with_reducible apply Lo.self | with_reducible apply Lo.new | with_reducible apply Lo.set | with_reducible apply Lo.self1 | with_reducible apply Lo.self2)); done))) | (with_reducible apply obj_past; (· ((first | with_reducible assumption | with_reducible apply ne_add1 | with_reducible apply ne_add1' | with_reducible apply ne_add2 | with_reducible apply ne_add2' | with_reducible apply ne_add12 | with_reducible apply ne_add21 | (with_reducible apply Lo.ne; (repeat (first | with_reducible assumption | with_reducible apply Lo.self | with_reducible apply Lo.new | with_reducible apply Lo.set | with_reducible apply Lo.self1 | with_reducible apply Lo.self2)); done) | (with_reducible apply Lo.ne1; (repeat (first | with_reducible assumption | with_reducible apply Lo.self | with_reducible apply Lo.new | with_reducible apply Lo.set | with_reducible apply Lo.self1 | with_reducible apply Lo.self2)); done) | (with_reducible apply Lo.ne'; (repeat (first | with_reducible assumption | with_reducible apply Lo.self | with_reducible apply Lo.new | with_reducible apply Lo.set | with_reducible apply Lo.self1 | with_reducible apply Lo.self2)); done) | (with_reducible apply Lo.ne1'; (repeat (first | with_reducible assumption | with_reducible apply Lo.self | with_reducible apply Lo.new | with_reducible apply Lo.set | with_reducible apply Lo.self1 | with_reducible apply Lo.self2)); done)); done))) | exact obj_here rfl)); (· exact rfl); (· exact rfl))
        | (apply op_store_at; (· exact rfl); (· exact rfl); (· exact rfl); (· repeat (first | with_reducible assumption | (with_reducible apply obj_here; with_reducible rfl) | with_reducible apply obj_set | (with_reducible apply obj_skip_lo; (· ((repeat (first | with_reducible assumption | with_reducible apply Lo.self | with_reducible apply Lo.new | with_reducible apply Lo.set | with_reducible apply Lo.self1 | with_reducible apply Lo.self2)); done))) | (with_reducible apply obj_past; (· ((first | with_reducible assumption | with_reducible apply ne_add1 | with_reducible apply ne_add1' | with_reducible apply ne_add2 | with_reducible apply ne_add2' | with_reducible apply ne_add12 | with_reducible apply ne_add21 | (with_reducible apply Lo.ne; (repeat (first | with_reducible assumption | with_reducible apply Lo.self | with_reducible apply Lo.new | with_reducible apply Lo.set | with_reducible apply Lo.self1 | with_reducible apply Lo.self2)); done) | (with_reducible apply Lo.ne1; (repeat (first | with_reducible assumption | with_reducible apply Lo.self | with_reducible apply Lo.new | with_reducible apply Lo.set | with_reducible apply Lo.self1 | with_reducible apply Lo.self2)); done) | (with_reducible apply Lo.ne'; (repeat (first | with_reducible assumption | with_reducible apply Lo.self | with_reducible apply Lo.new | with_reducible apply Lo.set | with_reducible apply Lo.self1 | with_reducible apply Lo.self2)); done) | (with_reducible apply Lo.ne1'; (repeat (first | with_reducible assumption | with_reducible apply Lo.self | with_reducible apply Lo.new | with_reducible apply Lo.set | with_reducible apply Lo.self1 | with_reducible apply Lo.self2)); done)); done))) | exact obj_here rfl)); (· exact rfl); (· exact rfl); (· exact rfl))
        | (apply op_at; (· exact rfl))
        | (apply dwp_cond_t; (· exact rfl); (· (first | with_reducible assumption | with_reducible rfl | decide)))
        | (refine dwp_cond rfl ?_ ?_ <;> intro hb)
        | apply dwp_skip
        | apply dwp_ret
        | fail)
      any_goals first | exact post_bad (by unfold postE; simp only [*, Bool.true_or, Bool.or_true, Bool.false_or, Bool.or_false, Bool.not_true, Bool.not_false, if_true, Bool.false_eq_true, if_false]) (by decide) (Above.set (by first | exact hab5 | exact hab4) (Nat.le_succ _) _) (((i1.mono (by first | exact aboveQ' | exact aboveQ)).set lt2).older hab2.le) | skip
    | false =>
      have hnw : DV.int .u64 (IntKind.u64.wrap (nx + 1)) = .int .u64 (nx + 1) := by
        have : nx ≠ 18446744073709551615 := by simpa using hM
        rw [wrapU (by omega) (by omega)]
      by_cases h4 : l.length = 4096
      · have hP := pushE_full hcb h4
        have hc4 : decide ((l.length : Int) ≥ 4096) = true := by simp only [decide_eq_true_eq]; omega
        refine enter rfl Try.func38 rfl Try.ntmps38 rfl ?_
        dsimp only [List.cons_append, List.nil_append, List.length_cons, List.length_nil, List.replicate_succ, List.replicate_zero, Nat.reduceAdd, Nat.reduceSub]
        repeat' (first
          | dsimp only [putD, DV.cells, DH.new_next, DH.set_next, List.length_cons, List.length_nil, Nat.reduceAdd, List.set_cons_zero, List.set_cons_succ, getD_zero, getD_succ, fieldAt_zero, fieldAt_succ, thenD, blockD, retR]
          | (refine ⟨_, resOf_ctt (loadD_at rfl (by repeat (first | with_reducible assumption | (with_reducible apply obj_here; with_reducible rfl) | with_reducible apply obj_set | (with_reducible apply obj_skip_lo; (· ((repeat (first | with_reducible assumption | with_reducible apply Lo.self | with_reducible apply Lo.new | with_reducible apply Lo.set | with_reducible apply Lo.self1 | with_reducible apply Lo.self2)); done))) | (with_reducible apply obj_past; (· ((first | with_reducible assumption | with_reducible apply ne_add1 | with_reducible apply ne_add1' | with_reducible apply ne_add2 | with_reducible apply ne_add2' | with_reducible apply ne_add12 | with_reducible apply ne_add21 | (with_reducible apply Lo.ne; (repeat (first | with_reducible assumption | with_reducible apply Lo.self | with_reducible apply Lo.new | with_reducible apply Lo.set | with_reducible apply Lo.self1 | with_reducible apply Lo.self2)); done) | (with_reducible apply Lo.ne1; (repeat (first | with_reducible assumption | with_reducible apply Lo.self | with_reducible apply Lo.new | with_reducible apply Lo.set | with_reducible apply Lo.self1 | with_reducible apply Lo.self2)); done) | (with_reducible apply Lo.ne'; (repeat (first | with_reducible assumption | with_reducible apply Lo.self | with_reducible apply Lo.new | with_reducible apply Lo.set | with_reducible apply Lo.self1 | with_reducible apply Lo.self2)); done) | (with_reducible apply Lo.ne1'; (repeat (first | with_reducible assumption | with_reducible apply Lo.self | with_reducible apply Lo.new | with_reducible apply Lo.set | with_reducible apply Lo.self1 | with_reducible apply Lo.self2)); done)); done))) | exact obj_here rfl)) rfl rfl), ?_⟩)
          | apply dwp_seq
          | apply dwp_region
          | apply ops_nil
          | (apply ops_plain; (· exact rfl))
          | (apply ops_on; (· exact rfl); (· exact rfl); (· (first | with_reducible assumption | with_reducible rfl | decide)))
          | (apply ops_off0; (· exact rfl); (· exact rfl); (· (first | with_reducible assumption | with_reducible rfl | decide)))
          | (apply ops_split0; (· exact rfl); (· exact rfl); all_goals intro hb)
          | (apply op_call; (· exact rfl); (· exact rfl); (· exact rfl); refine (copy36 _ p c ex l nx now hor (hl.mono hab2) hn).mono ?_; rintro r H1 ⟨ab1, s1, rfl, p1, c1, e1, rfl, it1, if1⟩; have i1 : ItsF _ H1 (.sl p1 l.length c1 e1) l := ⟨p1, c1, e1, rfl, it1, if1⟩; have F := AfterC.of ab1; have aa1 := F.aa; have hob1 := F.ob; have hox1 := F.ox; have lt1 := F.lt; have hlb1 : Lo H1 (H.next + 1) := lo lt1; have hlx1 : Lo H1 H.next := lo (Nat.lt_of_succ_lt lt1); have hab4 : ∀ {o o'}, Above H ((H1.new o).set H1.next o') := fun {o o'} => aa1.trans aboveQ; have hab5 : ∀ {o o' d}, Above H (((H1.new o).set H1.next o').new d) := fun {o o' d} => aa1.trans aboveQ')
          | (apply op_call; (· exact rfl); (· exact rfl); (· exact rfl); refine call_table (g := gKc) rfl (kc_t (⟨_, _, _, rfl, hl.mono (by first | exact hab5 | exact hab4)⟩ : Its _ (.sl p l.length c ex) l)) ?_; rw [hk, if_pos rfl])
          | (apply op_call; (· exact rfl); (· exact rfl); (· exact rfl); refine call_table (g := gMay2) rfl (may2_t (obj_here rfl)) ?_)
          | (apply op_pick_t; (· exact rfl); (· exact rfl); (· (first | with_reducible assumption | with_reducible rfl | decide)); (· exact rfl))
          | (apply op_pick_f; (· exact rfl); (· exact rfl); (· (first | with_reducible assumption | with_reducible rfl | decide)); (· exact rfl))
          | (apply op_store_at; (· exact rfl); (· exact rfl); (· exact rfl); (· exact obj_here rfl); (· exact rfl); (· exact rfl); (· exact rfl))
          | (apply op_load_at; (· exact rfl); (· exact rfl); (· repeat (first | with_reducible assumption | (with_reducible apply obj_here; with_reducible rfl) | with_reducible apply obj_set | (with_reducible apply obj_skip_lo; (· ((repeat (first | with_reducible assumption | with_reducible apply Lo.self | with_reducible apply Lo.new | with_reducible apply Lo.set | with_reducible apply Lo.self1 | with_reducible apply Lo.self2)); done))) | (with_reducible apply obj_past; (· ((first | with_reducible assumption | with_reducible apply ne_add1 | with_reducible apply ne_add1' | with_reducible apply ne_add2 | with_reducible apply ne_add2' | with_reducible apply ne_add12 | with_reducible apply ne_add21 | (with_reducible apply Lo.ne; (repeat (first | with_reducible assumption | with_reducible apply Lo.self | with_reducible apply Lo.new | with_reducible apply Lo.set | with_reducible apply Lo.self1 | with_reducible apply Lo.self2)); done) | (with_reducible apply Lo.ne1; (repeat (first | with_reducible assumption | with_reducible apply Lo.self | with_reducible apply Lo.new | with_reducible apply Lo.set | with_reducible apply Lo.self1 | with_reducible apply Lo.self2)); done) | (with_reducible apply Lo.ne'; (repeat (first | with_reducible assumption | with_reducible apply Lo.self | with_reducible apply Lo.new | with_reducible apply Lo.set | with_reducible apply Lo.self1 | with_reducible apply Lo.self2)); done) | (with_reducible apply Lo.ne1'; (repeat (first | with_reducible assumption | with_reducible apply Lo.self | with_reducible apply Lo.new | with_reducible apply Lo.set | with_reducible apply Lo.self1 | with_reducible apply Lo.self2)); done)); done))) | exact obj_here rfl)); (· exact rfl); (· exact rfl))
          | (apply op_store_at; (· exact rfl); (· exact rfl); (· exact rfl); (· repeat (first | with_reducible assumption | (with_reducible apply obj_here; with_reducible rfl) | with_reducible apply obj_set | (with_reducible apply obj_skip_lo; (· ((repeat (first | with_reducible assumption | with_reducible apply Lo.self | with_reducible apply Lo.new | with_reducible apply Lo.set | with_reducible apply Lo.self1 | with_reducible apply Lo.self2)); done))) | (with_reducible apply obj_past; (· ((first | with_reducible assumption | with_reducible apply ne_add1 | with_reducible apply ne_add1' | with_reducible apply ne_add2 | with_reducible apply ne_add2' | with_reducible apply ne_add12 | with_reducible apply ne_add21 | (with_reducible apply Lo.ne; (repeat (first | with_reducible assumption | with_reducible apply Lo.self | with_reducible apply Lo.new | with_reducible apply Lo.set | with_reducible apply Lo.self1 | with_reducible apply Lo.self2)); done) | (with_reducible apply Lo.ne1; (repeat (first | with_reducible assumption | with_reducible apply Lo.self | with_reducible apply Lo.new | with_reducible apply Lo.set | with_reducible apply Lo.self1 | with_reducible apply Lo.self2)); done) | (with_reducible apply Lo.ne'; (repeat (first | with_reducible assumption | with_reducible apply Lo.self | with_reducible apply Lo.new | with_reducible apply Lo.set | with_reducible apply Lo.self1 | with_reducible apply Lo.self2)); done) | (with_reducible apply Lo.ne1'; (repeat (first | with_reducible assumption | with_reducible apply Lo.self | with_reducible apply Lo.new | with_reducible apply Lo.set | with_reducible apply Lo.self1 | with_reducible apply Lo.self2)); done)); done))) | exact obj_here rfl)); (· exact rfl); (· exact rfl); (· exact rfl))
          | (apply op_at; (· exact rfl))
          | (apply dwp_cond_t; (· exact rfl); (· (first | with_reducible assumption | with_reducible rfl | decide)))
          | (refine dwp_cond rfl ?_ ?_ <;> intro hb)
          | apply dwp_skip
          | apply dwp_ret
          | fail)
        any_goals first | exact post_bad (by unfold postE; simp only [*, Bool.true_or, Bool.or_true, Bool.false_or, Bool.or_false, Bool.not_true, Bool.not_false, if_true, Bool.false_eq_true, if_false]) (by decide) (Above.set (by first | exact hab5 | exact hab4) (Nat.le_succ _) _) (((i1.mono (by first | exact aboveQ' | exact aboveQ)).set lt2).older hab2.le) | skip
      · have hP := pushE_ok hcb h4
        have hlm := (checkB_heap.mp hcb).2
        have hc4 : decide ((l.length : Int) ≥ 4096) = false := by simp only [decide_eq_false_iff_not]; omega
        refine enter rfl Try.func38 rfl Try.ntmps38 rfl ?_
        dsimp only [List.cons_append, List.nil_append, List.length_cons, List.length_nil, List.replicate_succ, List.replicate_zero, Nat.reduceAdd, Nat.reduceSub]
        repeat' (first
          | dsimp only [putD, DV.cells, DH.new_next, DH.set_next, List.length_cons, List.length_nil, Nat.reduceAdd, List.set_cons_zero, List.set_cons_succ, getD_zero, getD_succ, fieldAt_zero, fieldAt_succ, thenD, blockD, retR]
          | (refine ⟨_, resOf_ctt (loadD_at rfl (by repeat (first | with_reducible assumption | (with_reducible apply obj_here; with_reducible rfl) | with_reducible apply obj_set | (with_reducible apply obj_skip_lo; (· ((repeat (first | with_reducible assumption | with_reducible apply Lo.self | with_reducible apply Lo.new | with_reducible apply Lo.set | with_reducible apply Lo.self1 | with_reducible apply Lo.self2)); done))) | (with_reducible apply obj_past; (· ((first | with_reducible assumption | with_reducible apply ne_add1 | with_reducible apply ne_add1' | with_reducible apply ne_add2 | with_reducible apply ne_add2' | with_reducible apply ne_add12 | with_reducible apply ne_add21 | (with_reducible apply Lo.ne; (repeat (first | with_reducible assumption | with_reducible apply Lo.self | with_reducible apply Lo.new | with_reducible apply Lo.set | with_reducible apply Lo.self1 | with_reducible apply Lo.self2)); done) | (with_reducible apply Lo.ne1; (repeat (first | with_reducible assumption | with_reducible apply Lo.self | with_reducible apply Lo.new | with_reducible apply Lo.set | with_reducible apply Lo.self1 | with_reducible apply Lo.self2)); done) | (with_reducible apply Lo.ne'; (repeat (first | with_reducible assumption | with_reducible apply Lo.self | with_reducible apply Lo.new | with_reducible apply Lo.set | with_reducible apply Lo.self1 | with_reducible apply Lo.self2)); done) | (with_reducible apply Lo.ne1'; (repeat (first | with_reducible assumption | with_reducible apply Lo.self | with_reducible apply Lo.new | with_reducible apply Lo.set | with_reducible apply Lo.self1 | with_reducible apply Lo.self2)); done)); done))) | exact obj_here rfl)) rfl rfl), ?_⟩)
          | (apply drawp_read; (· (first | exact wanted_plain rfl | (apply wanted_on; (· exact rfl); (· exact rfl); (· (first | with_reducible assumption | with_reducible rfl | decide))))); (· exact rfl); (· exact rfl); (· decide +kernel); (· intro H' h; have h : Above _ _ := h; exact opD_load rfl rfl (h.obj (l := H.next) (by exact Nat.lt_of_succ_lt F.ltb5) (by exact F.ox5)) (rfl) (rfl)))
          | (apply drawp_read; (· (first | exact wanted_plain rfl | (apply wanted_on; (· exact rfl); (· exact rfl); (· (first | with_reducible assumption | with_reducible rfl | decide))))); (· exact rfl); (· exact rfl); (· decide +kernel); (· intro H' h; have h : _ ∧ _ := h; exact opD_load rfl rfl (h.1.trans (by repeat (first | with_reducible assumption | (with_reducible apply obj_here; with_reducible rfl) | with_reducible apply obj_set | (with_reducible apply obj_skip_lo; (· ((repeat (first | with_reducible assumption | with_reducible apply Lo.self | with_reducible apply Lo.new | with_reducible apply Lo.set | with_reducible apply Lo.self1 | with_reducible apply Lo.self2)); done))) | (with_reducible apply obj_past; (· ((first | with_reducible assumption | with_reducible apply ne_add1 | with_reducible apply ne_add1' | with_reducible apply ne_add2 | with_reducible apply ne_add2' | with_reducible apply ne_add12 | with_reducible apply ne_add21 | (with_reducible apply Lo.ne; (repeat (first | with_reducible assumption | with_reducible apply Lo.self | with_reducible apply Lo.new | with_reducible apply Lo.set | with_reducible apply Lo.self1 | with_reducible apply Lo.self2)); done) | (with_reducible apply Lo.ne1; (repeat (first | with_reducible assumption | with_reducible apply Lo.self | with_reducible apply Lo.new | with_reducible apply Lo.set | with_reducible apply Lo.self1 | with_reducible apply Lo.self2)); done) | (with_reducible apply Lo.ne'; (repeat (first | with_reducible assumption | with_reducible apply Lo.self | with_reducible apply Lo.new | with_reducible apply Lo.set | with_reducible apply Lo.self1 | with_reducible apply Lo.self2)); done) | (with_reducible apply Lo.ne1'; (repeat (first | with_reducible assumption | with_reducible apply Lo.self | with_reducible apply Lo.new | with_reducible apply Lo.set | with_reducible apply Lo.self1 | with_reducible apply Lo.self2)); done)); done))) | exact obj_here rfl))) rfl rfl))
          | (apply drawp_read; (· (first | exact wanted_plain rfl | (apply wanted_on; (· exact rfl); (· exact rfl); (· (first | with_reducible assumption | with_reducible rfl | decide))))); (· exact rfl); (· exact rfl); (· decide +kernel); (· intro H' h; have h : _ ∧ _ := h; exact opD_load rfl rfl (h.2.trans (by repeat (first | with_reducible assumption | (with_reducible apply obj_here; with_reducible rfl) | with_reducible apply obj_set | (with_reducible apply obj_skip_lo; (· ((repeat (first | with_reducible assumption | with_reducible apply Lo.self | with_reducible apply Lo.new | with_reducible apply Lo.set | with_reducible apply Lo.self1 | with_reducible apply Lo.self2)); done))) | (with_reducible apply obj_past; (· ((first | with_reducible assumption | with_reducible apply ne_add1 | with_reducible apply ne_add1' | with_reducible apply ne_add2 | with_reducible apply ne_add2' | with_reducible apply ne_add12 | with_reducible apply ne_add21 | (with_reducible apply Lo.ne; (repeat (first | with_reducible assumption | with_reducible apply Lo.self | with_reducible apply Lo.new | with_reducible apply Lo.set | with_reducible apply Lo.self1 | with_reducible apply Lo.self2)); done) | (with_reducible apply Lo.ne1; (repeat (first | with_reducible assumption | with_reducible apply Lo.self | with_reducible apply Lo.new | with_reducible apply Lo.set | with_reducible apply Lo.self1 | with_reducible apply Lo.self2)); done) | (with_reducible apply Lo.ne'; (repeat (first | with_reducible assumption | with_reducible apply Lo.self | with_reducible apply Lo.new | with_reducible apply Lo.set | with_reducible apply Lo.self1 | with_reducible apply Lo.self2)); done) | (with_reducible apply Lo.ne1'; (repeat (first | with_reducible assumption | with_reducible apply Lo.self | with_reducible apply Lo.new | with_reducible apply Lo.set | with_reducible apply Lo.self1 | with_reducible apply Lo.self2)); done)); done))) | exact obj_here rfl))) rfl rfl))
          | (apply drawp_move; (· (first | exact wanted_plain rfl | (apply wanted_on; (· exact rfl); (· exact rfl); (· (first | with_reducible assumption | with_reducible rfl | decide))))); (· exact rfl); (· decide +kernel); apply op_store_at; (· exact rfl); (· exact rfl); (· exact rfl); (· repeat (first | with_reducible assumption | (with_reducible apply obj_here; with_reducible rfl) | with_reducible apply obj_set | (with_reducible apply obj_skip_lo; (· ((repeat (first | with_reducible assumption | with_reducible apply Lo.self | with_reducible apply Lo.new | with_reducible apply Lo.set | with_reducible apply Lo.self1 | with_reducible apply Lo.self2)); done))) | (with_reducible apply obj_past; (· ((first | with_reducible assumption | with_reducible apply ne_add1 | with_reducible apply ne_add1' | with_reducible apply ne_add2 | with_reducible apply ne_add2' | with_reducible apply ne_add12 | with_reducible apply ne_add21 | (with_reducible apply Lo.ne; (repeat (first | with_reducible assumption | with_reducible apply Lo.self | with_reducible apply Lo.new | with_reducible apply Lo.set | with_reducible apply Lo.self1 | with_reducible apply Lo.self2)); done) | (with_reducible apply Lo.ne1; (repeat (first | with_reducible assumption | with_reducible apply Lo.self | with_reducible apply Lo.new | with_reducible apply Lo.set | with_reducible apply Lo.self1 | with_reducible apply Lo.self2)); done) | (with_reducible apply Lo.ne'; (repeat (first | with_reducible assumption | with_reducible apply Lo.self | with_reducible apply Lo.new | with_reducible apply Lo.set | with_reducible apply Lo.self1 | with_reducible apply Lo.self2)); done) | (with_reducible apply Lo.ne1'; (repeat (first | with_reducible assumption | with_reducible apply Lo.self | with_reducible apply Lo.new | with_reducible apply Lo.set | with_reducible apply Lo.self1 | with_reducible apply Lo.self2)); done)); done))) | exact obj_here rfl)); (· exact rfl); (· exact rfl); (· exact rfl); refine ⟨⟨set_other (Nat.ne_of_gt lt1), set_other (Nat.ne_of_lt (Nat.lt_succ_self _))⟩, ?_⟩)
          | apply dwp_seq
          | apply dwp_region
          | apply ops_nil
          | (apply ops_plain; (· exact rfl))
          | (apply ops_on; (· exact rfl); (· exact rfl); (· (first | with_reducible assumption | with_reducible rfl | decide)))
          | (apply ops_off0; (· exact rfl); (· exact rfl); (· (first | with_reducible assumption | with_reducible rfl | decide)))
          | (apply ops_split0; (· exact rfl); (· exact rfl); all_goals intro hb)
          | (apply op_call; (· exact rfl); (· exact rfl); (· exact rfl); refine (copy36 _ p c ex l nx now hor (hl.mono hab2) hn).mono ?_; rintro r H1 ⟨ab1, s1, rfl, p1, c1, e1, rfl, it1, if1⟩; have i1 : ItsF _ H1 (.sl p1 l.length c1 e1) l := ⟨p1, c1, e1, rfl, it1, if1⟩; have F := AfterC.of ab1; have aa1 := F.aa; have hob1 := F.ob; have hox1 := F.ox; have lt1 := F.lt; have hlb1 : Lo H1 (H.next + 1) := lo lt1; have hlx1 : Lo H1 H.next := lo (Nat.lt_of_succ_lt lt1); have hab4 : ∀ {o o'}, Above H ((H1.new o).set H1.next o') := fun {o o'} => aa1.trans aboveQ; have hab5 : ∀ {o o' d}, Above H (((H1.new o).set H1.next o').new d) := fun {o o' d} => aa1.trans aboveQ')
          | (apply op_call; (· exact rfl); (· exact rfl); (· exact rfl); refine call_table (g := gKc) rfl (kc_t (⟨_, _, _, rfl, hl.mono (by first | exact hab5 | exact hab4)⟩ : Its _ (.sl p l.length c ex) l)) ?_; rw [hk, if_pos rfl])
          | (apply op_call; (· exact rfl); (· exact rfl); (· exact rfl); refine call_table (g := gMay2) rfl (may2_t (obj_here rfl)) ?_)
          | (apply op_call; (· exact rfl); (· exact rfl); (· exact rfl); refine (CallWp.up upK5 (sorted_c (⟨_, _, _, rfl, hl.mono hab5⟩ : Its _ (.sl p l.length c ex) l) hn)).mono ?_; rintro r H6 ⟨ab6, p6, c6, e6, rfl, it6, if6⟩; refine ⟨ab6, ?_⟩)
          | (apply op_call; (· exact rfl); (· exact rfl); (· exact rfl); refine (CallWp.up upK5 (put57 _ p6 c6 e6 (sortL l) (⟨a, k, nx, w, h, m⟩ : Item) it6 (by rw [(sortL_perm l).length_eq]; exact hn))).mono ?_; rintro r H7 ⟨ab7, p7, c7, e7, rfl, it7, if7⟩; have ab67 := ab6.trans ab7; have hoc7 := ab67.obj (l := H1.next) ltc5 oc5; have hob7 := ab67.obj (l := H.next + 1) F.ltb5 F.ob5; have hox7 := ab67.obj (l := H.next) (Nat.lt_of_succ_lt F.ltb5) F.ox5; have hlc7 : Lo H7 H1.next := lo (Nat.lt_of_lt_of_le ltc5 ab67.le); have hlb7 : Lo H7 (H.next + 1) := lo (Nat.lt_of_lt_of_le F.ltb5 ab67.le); have hlx7 : Lo H7 H.next := lo (Nat.lt_of_lt_of_le (Nat.lt_of_succ_lt F.ltb5) ab67.le); have ltc6 : H1.next < H6.next := Nat.lt_of_lt_of_le ltc5 ab6.le; have aa7 := hab5.trans ab67; have nec : H.next ≠ H1.next := Nat.ne_of_lt (Nat.lt_of_succ_lt lt1); have nec' : H.next + 1 ≠ H1.next := Nat.ne_of_lt lt1; refine ⟨ab67, ?_⟩)
          | (apply op_pick_t; (· exact rfl); (· exact rfl); (· (first | with_reducible assumption | with_reducible rfl | decide)); (· exact rfl))
          | (apply op_pick_f; (· exact rfl); (· exact rfl); (· (first | with_reducible assumption | with_reducible rfl | decide)); (· exact rfl))
          | (apply op_store_at; (· exact rfl); (· exact rfl); (· exact rfl); (· exact obj_here rfl); (· exact rfl); (· exact rfl); (· exact rfl))
          | (apply op_told; (· exact rfl); (· exact hnw))
          | (apply op_load_at; (· exact rfl); (· exact rfl); (· repeat (first | with_reducible assumption | (with_reducible apply obj_here; with_reducible rfl) | with_reducible apply obj_set | (with_reducible apply obj_skip_lo; (· ((repeat (first | with_reducible assumption | with_reducible apply Lo.self | with_reducible apply Lo.new | with_reducible apply Lo.set | with_reducible apply Lo.self1 | with_reducible apply Lo.self2)); done))) | (with_reducible apply obj_past; (· ((first | with_reducible assumption | with_reducible apply ne_add1 | with_reducible apply ne_add1' | with_reducible apply ne_add2 | with_reducible apply ne_add2' | with_reducible apply ne_add12 | with_reducible apply ne_add21 | (with_reducible apply Lo.ne; (repeat (first | with_reducible assumption | with_reducible apply Lo.self | with_reducible apply Lo.new | with_reducible apply Lo.set | with_reducible apply Lo.self1 | with_reducible apply Lo.self2)); done) | (with_reducible apply Lo.ne1; (repeat (first | with_reducible assumption | with_reducible apply Lo.self | with_reducible apply Lo.new | with_reducible apply Lo.set | with_reducible apply Lo.self1 | with_reducible apply Lo.self2)); done) | (with_reducible apply Lo.ne'; (repeat (first | with_reducible assumption | with_reducible apply Lo.self | with_reducible apply Lo.new | with_reducible apply Lo.set | with_reducible apply Lo.self1 | with_reducible apply Lo.self2)); done) | (with_reducible apply Lo.ne1'; (repeat (first | with_reducible assumption | with_reducible apply Lo.self | with_reducible apply Lo.new | with_reducible apply Lo.set | with_reducible apply Lo.self1 | with_reducible apply Lo.self2)); done)); done))) | exact obj_here rfl)); (· exact rfl); (· exact rfl))
          | (apply op_store_at; (· exact rfl); (· exact rfl); (· exact rfl); (· repeat (first | with_reducible assumption | (with_reducible apply obj_here; with_reducible rfl) | with_reducible apply obj_set | (with_reducible apply obj_skip_lo; (· ((repeat (first | with_reducible assumption | with_reducible apply Lo.self | with_reducible apply Lo.new | with_reducible apply Lo.set | with_reducible apply Lo.self1 | with_reducible apply Lo.self2)); done))) | (with_reducible apply obj_past; (· ((first | with_reducible assumption | with_reducible apply ne_add1 | with_reducible apply ne_add1' | with_reducible apply ne_add2 | with_reducible apply ne_add2' | with_reducible apply ne_add12 | with_reducible apply ne_add21 | (with_reducible apply Lo.ne; (repeat (first | with_reducible assumption | with_reducible apply Lo.self | with_reducible apply Lo.new | with_reducible apply Lo.set | with_reducible apply Lo.self1 | with_reducible apply Lo.self2)); done) | (with_reducible apply Lo.ne1; (repeat (first | with_reducible assumption | with_reducible apply Lo.self | with_reducible apply Lo.new | with_reducible apply Lo.set | with_reducible apply Lo.self1 | with_reducible apply Lo.self2)); done) | (with_reducible apply Lo.ne'; (repeat (first | with_reducible assumption | with_reducible apply Lo.self | with_reducible apply Lo.new | with_reducible apply Lo.set | with_reducible apply Lo.self1 | with_reducible apply Lo.self2)); done) | (with_reducible apply Lo.ne1'; (repeat (first | with_reducible assumption | with_reducible apply Lo.self | with_reducible apply Lo.new | with_reducible apply Lo.set | with_reducible apply Lo.self1 | with_reducible apply Lo.self2)); done)); done))) | exact obj_here rfl)); (· exact rfl); (· exact rfl); (· exact rfl))
          | (apply op_at; (· exact rfl))
          | refine dwp_drawp (id := 8) _ rfl (fun H' => Above _ H') (Above.refl _) ?_
          | refine dwp_drawp (id := 10) _ rfl (fun H' => H'.obj H1.next = DH.obj _ H1.next ∧ H'.obj H.next = DH.obj _ H.next) ⟨rfl, rfl⟩ ?_
          | apply drawp_nil
          | apply tand
          | (apply drawp_pure; (· (first | exact wanted_plain rfl | (apply wanted_on; (· exact rfl); (· exact rfl); (· (first | with_reducible assumption | with_reducible rfl | decide))))); (· exact rfl); (· exact rfl); (· exact rfl))
          | (apply drawp_sync_st (fun _ => True); (· exact rfl); (· (first | exact wanted_plain rfl | (apply wanted_on; (· exact rfl); (· exact rfl); (· (first | with_reducible assumption | with_reducible rfl | decide))))); (· decide +kernel))
          | (apply drawp_move; (· (first | exact wanted_plain rfl | (apply wanted_on; (· exact rfl); (· exact rfl); (· (first | with_reducible assumption | with_reducible rfl | decide))))); (· exact rfl); (· decide +kernel))
          | (apply dwp_cond_t; (· exact rfl); (· (first | with_reducible assumption | with_reducible rfl | decide)))
          | (apply dwp_cond_f; (· exact rfl); (· (first | with_reducible assumption | with_reducible rfl | decide)))
          | (refine dwp_cond rfl ?_ ?_ <;> intro hb)
          | apply dwp_skip
          | apply dwp_ret
          | fail)
        any_goals first | exact post_bad (by unfold postE; simp only [*, Bool.true_or, Bool.or_true, Bool.false_or, Bool.or_false, Bool.not_true, Bool.not_false, if_true, Bool.false_eq_true, if_false]) (by decide) (Above.set (by first | exact hab5 | exact hab4) (Nat.le_succ _) _) (((i1.mono (by first | exact aboveQ' | exact aboveQ)).set lt2).older hab2.le) | skip
        exact post_good (by unfold postE; simp only [*, Bool.true_or, Bool.or_true, Bool.false_or, Bool.or_false, Bool.not_true, Bool.not_false, if_true, Bool.false_eq_true, if_false]) (((aa7.set aa1.le _).set aa1.le _).set (Nat.le_succ _) _) ((((ItsF.set ⟨p7, c7, e7, rfl, it7, if7⟩ ltc6).set ltc6).set (Nat.lt_trans lt1 ltc6)).older (Nat.le_trans aa1.le (Nat.le_of_lt ltc6)))
end
end Go.Det.Q

/- Kernels: Cancel. -/
namespace Go.Det.Q
open Go Go.Det Go.Proofs
set_option maxRecDepth 4000
set_option maxHeartbeats 8000000
set_option linter.unusedVariables false
set_option linter.unusedSimpArgs false
def cancelE (l : List Item) (nx now hor q : Int) : Int := if kOk l nx now hor then takeE l q else 1
def CancelS (H : DH) (l good : List Item) (nx now hor q : Int) (r : DV) (H' : DH) : Prop :=
  Above H H' ∧ ∃ s', r = .tuple [.agg [s', .int .u64 nx, .int .i64 now, .int .i64 hor], .int .i64 (cancelE l nx now hor q)] ∧ ItsF H H' s' (if cancelE l nx now hor q = 0 then good else l)
theorem cancel_bad {H H' : DH} {l good : List Item} {nx now hor q e : Int} {s' : DV} (he : cancelE l nx now hor q = e) (h0 : e ≠ 0) (ab : Above H H') (i : ItsF H H' s' l) : CancelS H l good nx now hor q (.tuple [.agg [s', .int .u64 nx, .int .i64 now, .int .i64 hor], .int .i64 e]) H' := by
  subst he
  unfold CancelS
  rw [if_neg h0]
  exact ⟨ab, s', rfl, i⟩
theorem cancel_good {H H' : DH} {l good : List Item} {nx now hor q : Int} {s' : DV} (he : cancelE l nx now hor q = 0) (ab : Above H H') (i : ItsF H H' s' good) : CancelS H l good nx now hor q (.tuple [.agg [s', .int .u64 nx, .int .i64 now, .int .i64 hor], .int .i64 0]) H' := by
  unfold CancelS
  rw [he]
  exact ⟨ab, s', rfl, i⟩
theorem takeE_two {l : List Item} (h : checkB l = true) (q : Int) : takeE l q = 0 ∨ takeE l q = 8 := by
  unfold takeE
  rw [if_pos h]
  split <;> simp
section
variable {H H1 : DH} {rx rb : DObj} (F : AfterC H H1 rx rb) {o d : DObj} {o' : Option DObj}
include F
theorem AfterC.ob4 : ((H1.new o).set H1.next o').obj (H.next + 1) = some rb := by
  rw [set_other (Nat.ne_of_lt F.lt), obj_new_lt F.lt]; exact F.ob
theorem AfterC.ltb4 : H.next + 1 < ((H1.new o).set H1.next o').next := Nat.lt_succ_of_lt F.lt
end
theorem ltc4 {H1 : DH} {o : DObj} {o' : Option DObj} : H1.next < ((H1.new o).set H1.next o').next := Nat.lt_succ_self _
theorem oc4 {H1 : DH} {o : DObj} {o' : Option DObj} : ((H1.new o).set H1.next o').obj H1.next = o' := obj_setA
section
variable (H : DH) (p : Option (Nat × Nat × Nat)) (c : Nat) (ex : Bool) (l : List Item) (nx now hor q : Int) (hl : It H p c ex l) (hn : l.length ≤ 1000000)
include hl hn
theorem cancel40 : CallWp Try.prog K5 40 [.agg [.sl p l.length c ex, .int .u64 nx, .int .i64 now, .int .i64 hor], .int .u64 q] H (CancelS H l (takeV l q) nx now hor q) := by
  have hab2 : ∀ {a b : DObj}, Above H ((H.new a).new b) := fun {a b} => ((Above.refl H).new _).new _
  have hob2 : ∀ {a b : DObj}, ((H.new a).new b).obj (H.next + 1) = some b := fun {a b} => obj_here rfl
  have hox2 : ∀ {a b : DObj}, ((H.new a).new b).obj H.next = some a := fun {a b} => obj_skip (Nat.ne_of_lt (Nat.lt_succ_self _)) (obj_here rfl)
  have lt2 : ∀ {a b : DObj}, H.next + 1 < ((H.new a).new b).next := fun {a b} => Nat.lt_succ_self _
  cases hk : kOk l nx now hor with
  | false =>
    refine enter rfl Try.func40 rfl Try.ntmps40 rfl ?_
    dsimp only [List.cons_append, List.nil_append, List.length_cons, List.length_nil, List.replicate_succ, List.replicate_zero, Nat.reduceAdd, Nat.reduceSub]
    repeat' (first
      | dsimp only [putD, DV.cells, DH.new_next, DH.set_next, List.length_cons, List.length_nil, Nat.reduceAdd, List.set_cons_zero, List.set_cons_succ, getD_zero, getD_succ, fieldAt_zero, fieldAt_succ, thenD, blockD, retR]
      | (refine ⟨_, resOf_ct (loadD_at rfl (by repeat (first | with_reducible assumption | (with_reducible apply obj_here; with_reducible rfl) | with_reducible apply obj_set | (with_reducible apply obj_skip_lo; (· ((repeat (first | with_reducible assumption | with_reducible apply Lo.self | with_reducible apply Lo.new | with_reducible apply Lo.set | with_reducible apply Lo.self1 | with_reducible apply Lo.self2)); done))) | (with_reducible apply obj_past; (· ((first | with_reducible assumption | with_reducible apply ne_add1 | with_reducible apply ne_add1' | with_reducible apply ne_add2 | with_reducible apply ne_add2' | with_reducible apply ne_add12 | with_reducible apply ne_add21 | (with_reducible apply Lo.ne; (repeat (first | with_reducible assumption | with_reducible apply Lo.self | with_reducible apply Lo.new | with_reducible apply Lo.set | with_reducible apply Lo.self1 | with_reducible apply Lo.self2)); done) | (with_reducible apply Lo.ne1; (repeat (first | with_reducible assumption | with_reducible apply Lo.self | with_reducible apply Lo.new | with_reducible apply Lo.set | with_reducible apply Lo.self1 | with_reducible apply Lo.self2)); done) | (with_reducible apply Lo.ne'; (repeat (first | with_reducible assumption | with_reducible apply Lo.self | with_reducible apply Lo.new | with_reducible apply Lo.set | with_reducible apply Lo.self1 | with_reducible apply Lo.self2)); done) | (with_reducible apply Lo.ne1'; (repeat (first | with_reducible assumption | with_reducible apply Lo.self | with_reducible apply Lo.new | with_reducible apply Lo.set | with_reducible apply Lo.self1 | with_reducible apply Lo.self2)); done)); done))) | exact obj_here rfl)) rfl rfl), ?_⟩)
      | apply dwp_seq
      | apply dwp_region
      | apply ops_nil
      | (apply ops_plain; (· exact rfl))
      | (apply op_call; (· exact rfl); (· exact rfl); (· exact rfl); refine call_table (g := gKc) rfl (kc_t (⟨_, _, _, rfl, hl.mono (by first | exact hab4 | exact hab2)⟩ : Its _ (.sl p l.length c ex) l)) ?_; rw [hk, if_neg Bool.false_ne_true])
      | (apply op_call; (· exact rfl); (· exact rfl); (· exact rfl); refine (own64 _ p c ex l nx now hor (hl.mono (by first | exact hab4 | exact hab2)) hn).mono ?_; rintro r H5 ⟨ab5, s5, rfl, p5, c5, e5, rfl, it5, if5⟩; have i5 : ItsF _ H5 (.sl p5 l.length c5 e5) l := ⟨p5, c5, e5, rfl, it5, if5⟩; have aa5 : Above H H5 := Above.trans (by first | exact hab4 | exact hab2) ab5; have hob5 := ab5.obj (l := H.next + 1) (by first | exact F4.ltb4 | exact lt2) (by first | exact F4.ob4 | exact hob2); have lt5 : H.next + 1 < H5.next := Nat.lt_of_lt_of_le (by first | exact F4.ltb4 | exact lt2) ab5.le; have hlb5 : Lo H5 (H.next + 1) := lo lt5)
      | (apply op_load_at; (· exact rfl); (· exact rfl); (· repeat (first | with_reducible assumption | (with_reducible apply obj_here; with_reducible rfl) | with_reducible apply obj_set | (with_reducible apply obj_skip_lo; (· ((repeat (first | with_reducible assumption | with_reducible apply Lo.self | with_reducible apply Lo.new | with_reducible apply Lo.set | with_reducible apply Lo.self1 | with_reducible apply Lo.self2)); done))) | (with_reducible apply obj_past; (· ((first | with_reducible assumption | with_reducible apply ne_add1 | with_reducible apply ne_add1' | with_reducible apply ne_add2 | with_reducible apply ne_add2' | with_reducible apply ne_add12 | with_reducible apply ne_add21 | (with_reducible apply Lo.ne; (repeat (first | with_reducible assumption | with_reducible apply Lo.self | with_reducible apply Lo.new | with_reducible apply Lo.set | with_reducible apply Lo.self1 | with_reducible apply Lo.self2)); done) | (with_reducible apply Lo.ne1; (repeat (first | with_reducible assumption | with_reducible apply Lo.self | with_reducible apply Lo.new | with_reducible apply Lo.set | with_reducible apply Lo.self1 | with_reducible apply Lo.self2)); done) | (with_reducible apply Lo.ne'; (repeat (first | with_reducible assumption | with_reducible apply Lo.self | with_reducible apply Lo.new | with_reducible apply Lo.set | with_reducible apply Lo.self1 | with_reducible apply Lo.self2)); done) | (with_reducible apply Lo.ne1'; (repeat (first | with_reducible assumption | with_reducible apply Lo.self | with_reducible apply Lo.new | with_reducible apply Lo.set | with_reducible apply Lo.self1 | with_reducible apply Lo.self2)); done)); done))) | exact obj_here rfl)); (· exact rfl); (· exact rfl))
      | (apply op_store_at; (· exact rfl); (· exact rfl); (· exact rfl); (· repeat (first | with_reducible assumption | (with_reducible apply obj_here; with_reducible rfl) | with_reducible apply obj_set | (with_reducible apply obj_skip_lo; (· ((repeat (first | with_reducible assumption | with_reducible apply Lo.self | with_reducible apply Lo.new | with_reducible apply Lo.set | with_reducible apply Lo.self1 | with_reducible apply Lo.self2)); done))) | (with_reducible apply obj_past; (· ((first | with_reducible assumption | with_reducible apply ne_add1 | with_reducible apply ne_add1' | with_reducible apply ne_add2 | with_reducible apply ne_add2' | with_reducible apply ne_add12 | with_reducible apply ne_add21 | (with_reducible apply Lo.ne; (repeat (first | with_reducible assumption | with_reducible apply Lo.self | with_reducible apply Lo.new | with_reducible apply Lo.set | with_reducible apply Lo.self1 | with_reducible apply Lo.self2)); done) | (with_reducible apply Lo.ne1; (repeat (first | with_reducible assumption | with_reducible apply Lo.self | with_reducible apply Lo.new | with_reducible apply Lo.set | with_reducible apply Lo.self1 | with_reducible apply Lo.self2)); done) | (with_reducible apply Lo.ne'; (repeat (first | with_reducible assumption | with_reducible apply Lo.self | with_reducible apply Lo.new | with_reducible apply Lo.set | with_reducible apply Lo.self1 | with_reducible apply Lo.self2)); done) | (with_reducible apply Lo.ne1'; (repeat (first | with_reducible assumption | with_reducible apply Lo.self | with_reducible apply Lo.new | with_reducible apply Lo.set | with_reducible apply Lo.self1 | with_reducible apply Lo.self2)); done)); done))) | exact obj_here rfl)); (· exact rfl); (· exact rfl); (· exact rfl))
      | (apply op_at; (· exact rfl))
      | (apply dwp_cond_t; (· exact rfl); (· (first | with_reducible assumption | with_reducible rfl | decide)))
      | apply dwp_ret
      | fail)
    any_goals first | exact cancel_bad (by unfold cancelE; rw [hk]; first | rfl | exact hT) (by decide) (aa5.set (Nat.le_succ _) _) ((i5.set (by first | exact F4.ltb4 | exact lt2)).older (by first | exact hab4.le | exact hab2.le)) | skip
  | true =>
    rcases takeE_two (kOk_check hk) q with hT | hT
    · skip
      refine enter rfl Try.func40 rfl Try.ntmps40 rfl ?_
      dsimp only [List.cons_append, List.nil_append, List.length_cons, List.length_nil, List.replicate_succ, List.replicate_zero, Nat.reduceAdd, Nat.reduceSub]
      repeat' (first
        | dsimp only [putD, DV.cells, DH.new_next, DH.set_next, List.length_cons, List.length_nil, Nat.reduceAdd, List.set_cons_zero, List.set_cons_succ, getD_zero, getD_succ, fieldAt_zero, fieldAt_succ, thenD, blockD, retR]
        | (refine ⟨_, resOf_ct (loadD_at rfl (by repeat (first | with_reducible assumption | (with_reducible apply obj_here; with_reducible rfl) | with_reducible apply obj_set | (with_reducible apply obj_skip_lo; (· ((repeat (first | with_reducible assumption | with_reducible apply Lo.self | with_reducible apply Lo.new | with_reducible apply Lo.set | with_reducible apply Lo.self1 | with_reducible apply Lo.self2)); done))) | (with_reducible apply obj_past; (· ((first | with_reducible assumption | with_reducible apply ne_add1 | with_reducible apply ne_add1' | with_reducible apply ne_add2 | with_reducible apply ne_add2' | with_reducible apply ne_add12 | with_reducible apply ne_add21 | (with_reducible apply Lo.ne; (repeat (first | with_reducible assumption | with_reducible apply Lo.self | with_reducible apply Lo.new | with_reducible apply Lo.set | with_reducible apply Lo.self1 | with_reducible apply Lo.self2)); done) | (with_reducible apply Lo.ne1; (repeat (first | with_reducible assumption | with_reducible apply Lo.self | with_reducible apply Lo.new | with_reducible apply Lo.set | with_reducible apply Lo.self1 | with_reducible apply Lo.self2)); done) | (with_reducible apply Lo.ne'; (repeat (first | with_reducible assumption | with_reducible apply Lo.self | with_reducible apply Lo.new | with_reducible apply Lo.set | with_reducible apply Lo.self1 | with_reducible apply Lo.self2)); done) | (with_reducible apply Lo.ne1'; (repeat (first | with_reducible assumption | with_reducible apply Lo.self | with_reducible apply Lo.new | with_reducible apply Lo.set | with_reducible apply Lo.self1 | with_reducible apply Lo.self2)); done)); done))) | exact obj_here rfl)) rfl rfl), ?_⟩)
        | apply dwp_seq
        | apply dwp_region
        | apply ops_nil
        | (apply ops_plain; (· exact rfl))
        | (apply op_call; (· exact rfl); (· exact rfl); (· exact rfl); refine call_table (g := gKc) rfl (kc_t (⟨_, _, _, rfl, hl.mono (by first | exact hab4 | exact hab2)⟩ : Its _ (.sl p l.length c ex) l)) ?_; rw [hk, if_pos rfl])
        | (apply op_call; (· exact rfl); (· exact rfl); (· exact rfl); refine (CallWp.up upK5 (take_c q (⟨_, _, _, rfl, hl.mono hab2⟩ : Its _ (.sl p l.length c ex) l) hn)).mono ?_; rintro r H4 ⟨ab4, s4, rfl, p4, c4, e4, rfl, it4, if4⟩; rw [hT]; have F4 := AfterC.of ab4; have aa4 := F4.aa; have hob4 := F4.ob; have hox4 := F4.ox; have lt4 := F4.lt; have hlb4 : Lo H4 (H.next + 1) := lo lt4; have hlx4 : Lo H4 H.next := lo (Nat.lt_of_succ_lt lt4); have hab4 : ∀ {o o'}, Above H ((H4.new o).set H4.next o') := fun {o o'} => aa4.trans aboveQ)
        | (apply op_store_at; (· exact rfl); (· exact rfl); (· exact rfl); (· exact obj_here rfl); (· exact rfl); (· exact rfl); (· exact rfl))
        | (apply op_load_at; (· exact rfl); (· exact rfl); (· repeat (first | with_reducible assumption | (with_reducible apply obj_here; with_reducible rfl) | with_reducible apply obj_set | (with_reducible apply obj_skip_lo; (· ((repeat (first | with_reducible assumption | with_reducible apply Lo.self | with_reducible apply Lo.new | with_reducible apply Lo.set | with_reducible apply Lo.self1 | with_reducible apply Lo.self2)); done))) | (with_reducible apply obj_past; (· ((first | with_reducible assumption | with_reducible apply ne_add1 | with_reducible apply ne_add1' | with_reducible apply ne_add2 | with_reducible apply ne_add2' | with_reducible apply ne_add12 | with_reducible apply ne_add21 | (with_reducible apply Lo.ne; (repeat (first | with_reducible assumption | with_reducible apply Lo.self | with_reducible apply Lo.new | with_reducible apply Lo.set | with_reducible apply Lo.self1 | with_reducible apply Lo.self2)); done) | (with_reducible apply Lo.ne1; (repeat (first | with_reducible assumption | with_reducible apply Lo.self | with_reducible apply Lo.new | with_reducible apply Lo.set | with_reducible apply Lo.self1 | with_reducible apply Lo.self2)); done) | (with_reducible apply Lo.ne'; (repeat (first | with_reducible assumption | with_reducible apply Lo.self | with_reducible apply Lo.new | with_reducible apply Lo.set | with_reducible apply Lo.self1 | with_reducible apply Lo.self2)); done) | (with_reducible apply Lo.ne1'; (repeat (first | with_reducible assumption | with_reducible apply Lo.self | with_reducible apply Lo.new | with_reducible apply Lo.set | with_reducible apply Lo.self1 | with_reducible apply Lo.self2)); done)); done))) | exact obj_here rfl)); (· exact rfl); (· exact rfl))
        | (apply op_store_at; (· exact rfl); (· exact rfl); (· exact rfl); (· repeat (first | with_reducible assumption | (with_reducible apply obj_here; with_reducible rfl) | with_reducible apply obj_set | (with_reducible apply obj_skip_lo; (· ((repeat (first | with_reducible assumption | with_reducible apply Lo.self | with_reducible apply Lo.new | with_reducible apply Lo.set | with_reducible apply Lo.self1 | with_reducible apply Lo.self2)); done))) | (with_reducible apply obj_past; (· ((first | with_reducible assumption | with_reducible apply ne_add1 | with_reducible apply ne_add1' | with_reducible apply ne_add2 | with_reducible apply ne_add2' | with_reducible apply ne_add12 | with_reducible apply ne_add21 | (with_reducible apply Lo.ne; (repeat (first | with_reducible assumption | with_reducible apply Lo.self | with_reducible apply Lo.new | with_reducible apply Lo.set | with_reducible apply Lo.self1 | with_reducible apply Lo.self2)); done) | (with_reducible apply Lo.ne1; (repeat (first | with_reducible assumption | with_reducible apply Lo.self | with_reducible apply Lo.new | with_reducible apply Lo.set | with_reducible apply Lo.self1 | with_reducible apply Lo.self2)); done) | (with_reducible apply Lo.ne'; (repeat (first | with_reducible assumption | with_reducible apply Lo.self | with_reducible apply Lo.new | with_reducible apply Lo.set | with_reducible apply Lo.self1 | with_reducible apply Lo.self2)); done) | (with_reducible apply Lo.ne1'; (repeat (first | with_reducible assumption | with_reducible apply Lo.self | with_reducible apply Lo.new | with_reducible apply Lo.set | with_reducible apply Lo.self1 | with_reducible apply Lo.self2)); done)); done))) | exact obj_here rfl)); (· exact rfl); (· exact rfl); (· exact rfl))
        | (apply op_at; (· exact rfl))
        | (apply dwp_cond_f; (· exact rfl); (· (first | with_reducible assumption | with_reducible rfl | decide)))
        | apply dwp_skip
        | apply dwp_ret
        | fail)
      exact cancel_good (by unfold cancelE; rw [hk]; exact hT) ((Above.set hab4 (Nat.le_refl _) _).set (Nat.le_succ _) _) (((ItsF.set (ItsF.mono ⟨p4, c4, e4, rfl, it4, if4⟩ aboveQ) (Nat.lt_of_succ_lt lt2)).set lt2).older hab2.le)
    · skip
      refine enter rfl Try.func40 rfl Try.ntmps40 rfl ?_
      dsimp only [List.cons_append, List.nil_append, List.length_cons, List.length_nil, List.replicate_succ, List.replicate_zero, Nat.reduceAdd, Nat.reduceSub]
      repeat' (first
        | dsimp only [putD, DV.cells, DH.new_next, DH.set_next, List.length_cons, List.length_nil, Nat.reduceAdd, List.set_cons_zero, List.set_cons_succ, getD_zero, getD_succ, fieldAt_zero, fieldAt_succ, thenD, blockD, retR]
        | (refine ⟨_, resOf_ct (loadD_at rfl (by repeat (first | with_reducible assumption | (with_reducible apply obj_here; with_reducible rfl) | with_reducible apply obj_set | (with_reducible apply obj_skip_lo; (· ((repeat (first | with_reducible assumption | with_reducible apply Lo.self | with_reducible apply Lo.new | with_reducible apply Lo.set | with_reducible apply Lo.self1 | with_reducible apply Lo.self2)); done))) | (with_reducible apply obj_past; (· ((first | with_reducible assumption | with_reducible apply ne_add1 | with_reducible apply ne_add1' | with_reducible apply ne_add2 | with_reducible apply ne_add2' | with_reducible apply ne_add12 | with_reducible apply ne_add21 | (with_reducible apply Lo.ne; (repeat (first | with_reducible assumption | with_reducible apply Lo.self | with_reducible apply Lo.new | with_reducible apply Lo.set | with_reducible apply Lo.self1 | with_reducible apply Lo.self2)); done) | (with_reducible apply Lo.ne1; (repeat (first | with_reducible assumption | with_reducible apply Lo.self | with_reducible apply Lo.new | with_reducible apply Lo.set | with_reducible apply Lo.self1 | with_reducible apply Lo.self2)); done) | (with_reducible apply Lo.ne'; (repeat (first | with_reducible assumption | with_reducible apply Lo.self | with_reducible apply Lo.new | with_reducible apply Lo.set | with_reducible apply Lo.self1 | with_reducible apply Lo.self2)); done) | (with_reducible apply Lo.ne1'; (repeat (first | with_reducible assumption | with_reducible apply Lo.self | with_reducible apply Lo.new | with_reducible apply Lo.set | with_reducible apply Lo.self1 | with_reducible apply Lo.self2)); done)); done))) | exact obj_here rfl)) rfl rfl), ?_⟩)
        | apply dwp_seq
        | apply dwp_region
        | apply ops_nil
        | (apply ops_plain; (· exact rfl))
        | (apply op_call; (· exact rfl); (· exact rfl); (· exact rfl); refine call_table (g := gKc) rfl (kc_t (⟨_, _, _, rfl, hl.mono (by first | exact hab4 | exact hab2)⟩ : Its _ (.sl p l.length c ex) l)) ?_; rw [hk, if_pos rfl])
        | (apply op_call; (· exact rfl); (· exact rfl); (· exact rfl); refine (own64 _ p c ex l nx now hor (hl.mono (by first | exact hab4 | exact hab2)) hn).mono ?_; rintro r H5 ⟨ab5, s5, rfl, p5, c5, e5, rfl, it5, if5⟩; have i5 : ItsF _ H5 (.sl p5 l.length c5 e5) l := ⟨p5, c5, e5, rfl, it5, if5⟩; have aa5 : Above H H5 := Above.trans (by first | exact hab4 | exact hab2) ab5; have hob5 := ab5.obj (l := H.next + 1) (by first | exact F4.ltb4 | exact lt2) (by first | exact F4.ob4 | exact hob2); have lt5 : H.next + 1 < H5.next := Nat.lt_of_lt_of_le (by first | exact F4.ltb4 | exact lt2) ab5.le; have hlb5 : Lo H5 (H.next + 1) := lo lt5)
        | (apply op_call; (· exact rfl); (· exact rfl); (· exact rfl); refine (CallWp.up upK5 (take_c q (⟨_, _, _, rfl, hl.mono hab2⟩ : Its _ (.sl p l.length c ex) l) hn)).mono ?_; rintro r H4 ⟨ab4, s4, rfl, p4, c4, e4, rfl, it4, if4⟩; rw [hT]; have F4 := AfterC.of ab4; have aa4 := F4.aa; have hob4 := F4.ob; have hox4 := F4.ox; have lt4 := F4.lt; have hlb4 : Lo H4 (H.next + 1) := lo lt4; have hlx4 : Lo H4 H.next := lo (Nat.lt_of_succ_lt lt4); have hab4 : ∀ {o o'}, Above H ((H4.new o).set H4.next o') := fun {o o'} => aa4.trans aboveQ)
        | (apply op_store_at; (· exact rfl); (· exact rfl); (· exact rfl); (· exact obj_here rfl); (· exact rfl); (· exact rfl); (· exact rfl))
        | (apply op_load_at; (· exact rfl); (· exact rfl); (· repeat (first | with_reducible assumption | (with_reducible apply obj_here; with_reducible rfl) | with_reducible apply obj_set | (with_reducible apply obj_skip_lo; (· ((repeat (first | with_reducible assumption | with_reducible apply Lo.self | with_reducible apply Lo.new | with_reducible apply Lo.set | with_reducible apply Lo.self1 | with_reducible apply Lo.self2)); done))) | (with_reducible apply obj_past; (· ((first | with_reducible assumption | with_reducible apply ne_add1 | with_reducible apply ne_add1' | with_reducible apply ne_add2 | with_reducible apply ne_add2' | with_reducible apply ne_add12 | with_reducible apply ne_add21 | (with_reducible apply Lo.ne; (repeat (first | with_reducible assumption | with_reducible apply Lo.self | with_reducible apply Lo.new | with_reducible apply Lo.set | with_reducible apply Lo.self1 | with_reducible apply Lo.self2)); done) | (with_reducible apply Lo.ne1; (repeat (first | with_reducible assumption | with_reducible apply Lo.self | with_reducible apply Lo.new | with_reducible apply Lo.set | with_reducible apply Lo.self1 | with_reducible apply Lo.self2)); done) | (with_reducible apply Lo.ne'; (repeat (first | with_reducible assumption | with_reducible apply Lo.self | with_reducible apply Lo.new | with_reducible apply Lo.set | with_reducible apply Lo.self1 | with_reducible apply Lo.self2)); done) | (with_reducible apply Lo.ne1'; (repeat (first | with_reducible assumption | with_reducible apply Lo.self | with_reducible apply Lo.new | with_reducible apply Lo.set | with_reducible apply Lo.self1 | with_reducible apply Lo.self2)); done)); done))) | exact obj_here rfl)); (· exact rfl); (· exact rfl))
        | (apply op_store_at; (· exact rfl); (· exact rfl); (· exact rfl); (· repeat (first | with_reducible assumption | (with_reducible apply obj_here; with_reducible rfl) | with_reducible apply obj_set | (with_reducible apply obj_skip_lo; (· ((repeat (first | with_reducible assumption | with_reducible apply Lo.self | with_reducible apply Lo.new | with_reducible apply Lo.set | with_reducible apply Lo.self1 | with_reducible apply Lo.self2)); done))) | (with_reducible apply obj_past; (· ((first | with_reducible assumption | with_reducible apply ne_add1 | with_reducible apply ne_add1' | with_reducible apply ne_add2 | with_reducible apply ne_add2' | with_reducible apply ne_add12 | with_reducible apply ne_add21 | (with_reducible apply Lo.ne; (repeat (first | with_reducible assumption | with_reducible apply Lo.self | with_reducible apply Lo.new | with_reducible apply Lo.set | with_reducible apply Lo.self1 | with_reducible apply Lo.self2)); done) | (with_reducible apply Lo.ne1; (repeat (first | with_reducible assumption | with_reducible apply Lo.self | with_reducible apply Lo.new | with_reducible apply Lo.set | with_reducible apply Lo.self1 | with_reducible apply Lo.self2)); done) | (with_reducible apply Lo.ne'; (repeat (first | with_reducible assumption | with_reducible apply Lo.self | with_reducible apply Lo.new | with_reducible apply Lo.set | with_reducible apply Lo.self1 | with_reducible apply Lo.self2)); done) | (with_reducible apply Lo.ne1'; (repeat (first | with_reducible assumption | with_reducible apply Lo.self | with_reducible apply Lo.new | with_reducible apply Lo.set | with_reducible apply Lo.self1 | with_reducible apply Lo.self2)); done)); done))) | exact obj_here rfl)); (· exact rfl); (· exact rfl); (· exact rfl))
        | (apply op_at; (· exact rfl))
        | (apply dwp_cond_t; (· exact rfl); (· (first | with_reducible assumption | with_reducible rfl | decide)))
        | (apply dwp_cond_f; (· exact rfl); (· (first | with_reducible assumption | with_reducible rfl | decide)))
        | apply dwp_skip
        | apply dwp_ret
        | fail)
      any_goals first | exact cancel_bad (by unfold cancelE; rw [hk]; first | rfl | exact hT) (by decide) (aa5.set (Nat.le_succ _) _) ((i5.set (by first | exact F4.ltb4 | exact lt2)).older (by first | exact hab4.le | exact hab2.le)) | skip
theorem cancel41 : CallWp Try.prog K5 41 [.agg [.sl p l.length c ex, .int .u64 nx, .int .i64 now, .int .i64 hor], .int .u64 q] H (CancelS H l (rtakeV l q) nx now hor q) := by
  have hab2 : ∀ {a b : DObj}, Above H ((H.new a).new b) := fun {a b} => ((Above.refl H).new _).new _
  have hob2 : ∀ {a b : DObj}, ((H.new a).new b).obj (H.next + 1) = some b := fun {a b} => obj_here rfl
  have hox2 : ∀ {a b : DObj}, ((H.new a).new b).obj H.next = some a := fun {a b} => obj_skip (Nat.ne_of_lt (Nat.lt_succ_self _)) (obj_here rfl)
  have lt2 : ∀ {a b : DObj}, H.next + 1 < ((H.new a).new b).next := fun {a b} => Nat.lt_succ_self _
  cases hk : kOk l nx now hor with
  | false =>
    refine enter rfl Try.func41 rfl Try.ntmps41 rfl ?_
    dsimp only [List.cons_append, List.nil_append, List.length_cons, List.length_nil, List.replicate_succ, List.replicate_zero, Nat.reduceAdd, Nat.reduceSub]
    repeat' (first
      | dsimp only [putD, DV.cells, DH.new_next, DH.set_next, List.length_cons, List.length_nil, Nat.reduceAdd, List.set_cons_zero, List.set_cons_succ, getD_zero, getD_succ, fieldAt_zero, fieldAt_succ, thenD, blockD, retR]
      | (refine ⟨_, resOf_ct (loadD_at rfl (by repeat (first | with_reducible assumption | (with_reducible apply obj_here; with_reducible rfl) | with_reducible apply obj_set | (with_reducible apply obj_skip_lo; (· ((repeat (first | with_reducible assumption | with_reducible apply Lo.self | with_reducible apply Lo.new | with_reducible apply Lo.set | with_reducible apply Lo.self1 | with_reducible apply Lo.self2)); done))) | (with_reducible apply obj_past; (· ((first | with_reducible assumption | with_reducible apply ne_add1 | with_reducible apply ne_add1' | with_reducible apply ne_add2 | with_reducible apply ne_add2' | with_reducible apply ne_add12 | with_reducible apply ne_add21 | (with_reducible apply Lo.ne; (repeat (first | with_reducible assumption | with_reducible apply Lo.self | with_reducible apply Lo.new | with_reducible apply Lo.set | with_reducible apply Lo.self1 | with_reducible apply Lo.self2)); done) | (with_reducible apply Lo.ne1; (repeat (first | with_reducible assumption | with_reducible apply Lo.self | with_reducible apply Lo.new | with_reducible apply Lo.set | with_reducible apply Lo.self1 | with_reducible apply Lo.self2)); done) | (with_reducible apply Lo.ne'; (repeat (first | with_reducible assumption | with_reducible apply Lo.self | with_reducible apply Lo.new | with_reducible apply Lo.set | with_reducible apply Lo.self1 | with_reducible apply Lo.self2)); done) | (with_reducible apply Lo.ne1'; (repeat (first | with_reducible assumption | with_reducible apply Lo.self | with_reducible apply Lo.new | with_reducible apply Lo.set | with_reducible apply Lo.self1 | with_reducible apply Lo.self2)); done)); done))) | exact obj_here rfl)) rfl rfl), ?_⟩)
      | apply dwp_seq
      | apply dwp_region
      | apply ops_nil
      | (apply ops_plain; (· exact rfl))
      | (apply op_call; (· exact rfl); (· exact rfl); (· exact rfl); refine (copy36 _ p c ex l nx now hor (hl.mono hab2) hn).mono ?_; rintro r H1 ⟨ab1, s1, rfl, p1, c1, e1, rfl, it1, if1⟩; have i1 : ItsF _ H1 (.sl p1 l.length c1 e1) l := ⟨p1, c1, e1, rfl, it1, if1⟩; have F := AfterC.of ab1; have aa1 := F.aa; have hob1 := F.ob; have hox1 := F.ox; have lt1 := F.lt; have hlb1 : Lo H1 (H.next + 1) := lo lt1; have hlx1 : Lo H1 H.next := lo (Nat.lt_of_succ_lt lt1); have hab4 : ∀ {o o'}, Above H ((H1.new o).set H1.next o') := fun {o o'} => aa1.trans aboveQ)
      | (apply op_call; (· exact rfl); (· exact rfl); (· exact rfl); refine call_table (g := gKc) rfl (kc_t (⟨_, _, _, rfl, hl.mono (by first | exact hab4 | exact hab2)⟩ : Its _ (.sl p l.length c ex) l)) ?_; rw [hk, if_neg Bool.false_ne_true])
      | (apply op_store_at; (· exact rfl); (· exact rfl); (· exact rfl); (· exact obj_here rfl); (· exact rfl); (· exact rfl); (· exact rfl))
      | (apply op_load_at; (· exact rfl); (· exact rfl); (· repeat (first | with_reducible assumption | (with_reducible apply obj_here; with_reducible rfl) | with_reducible apply obj_set | (with_reducible apply obj_skip_lo; (· ((repeat (first | with_reducible assumption | with_reducible apply Lo.self | with_reducible apply Lo.new | with_reducible apply Lo.set | with_reducible apply Lo.self1 | with_reducible apply Lo.self2)); done))) | (with_reducible apply obj_past; (· ((first | with_reducible assumption | with_reducible apply ne_add1 | with_reducible apply ne_add1' | with_reducible apply ne_add2 | with_reducible apply ne_add2' | with_reducible apply ne_add12 | with_reducible apply ne_add21 | (with_reducible apply Lo.ne; (repeat (first | with_reducible assumption | with_reducible apply Lo.self | with_reducible apply Lo.new | with_reducible apply Lo.set | with_reducible apply Lo.self1 | with_reducible apply Lo.self2)); done) | (with_reducible apply Lo.ne1; (repeat (first | with_reducible assumption | with_reducible apply Lo.self | with_reducible apply Lo.new | with_reducible apply Lo.set | with_reducible apply Lo.self1 | with_reducible apply Lo.self2)); done) | (with_reducible apply Lo.ne'; (repeat (first | with_reducible assumption | with_reducible apply Lo.self | with_reducible apply Lo.new | with_reducible apply Lo.set | with_reducible apply Lo.self1 | with_reducible apply Lo.self2)); done) | (with_reducible apply Lo.ne1'; (repeat (first | with_reducible assumption | with_reducible apply Lo.self | with_reducible apply Lo.new | with_reducible apply Lo.set | with_reducible apply Lo.self1 | with_reducible apply Lo.self2)); done)); done))) | exact obj_here rfl)); (· exact rfl); (· exact rfl))
      | (apply op_store_at; (· exact rfl); (· exact rfl); (· exact rfl); (· repeat (first | with_reducible assumption | (with_reducible apply obj_here; with_reducible rfl) | with_reducible apply obj_set | (with_reducible apply obj_skip_lo; (· ((repeat (first | with_reducible assumption | with_reducible apply Lo.self | with_reducible apply Lo.new | with_reducible apply Lo.set | with_reducible apply Lo.self1 | with_reducible apply Lo.self2)); done))) | (with_reducible apply obj_past; (· ((first | with_reducible assumption | with_reducible apply ne_add1 | with_reducible apply ne_add1' | with_reducible apply ne_add2 | with_reducible apply ne_add2' | with_reducible apply ne_add12 | with_reducible apply ne_add21 | (with_reducible apply Lo.ne; (repeat (first | with_reducible assumption | with_reducible apply Lo.self | with_reducible apply Lo.new | with_reducible apply Lo.set | with_reducible apply Lo.self1 | with_reducible apply Lo.self2)); done) | (with_reducible apply Lo.ne1; (repeat (first | with_reducible assumption | with_reducible apply Lo.self | with_reducible apply Lo.new | with_reducible apply Lo.set | with_reducible apply Lo.self1 | with_reducible apply Lo.self2)); done) | (with_reducible apply Lo.ne'; (repeat (first | with_reducible assumption | with_reducible apply Lo.self | with_reducible apply Lo.new | with_reducible apply Lo.set | with_reducible apply Lo.self1 | with_reducible apply Lo.self2)); done) | (with_reducible apply Lo.ne1'; (repeat (first | with_reducible assumption | with_reducible apply Lo.self | with_reducible apply Lo.new | with_reducible apply Lo.set | with_reducible apply Lo.self1 | with_reducible apply Lo.self2)); done)); done))) | exact obj_here rfl)); (· exact rfl); (· exact rfl); (· exact rfl))
      | (apply op_at; (· exact rfl))
      | (apply dwp_cond_t; (· exact rfl); (· (first | with_reducible assumption | with_reducible rfl | decide)))
      | apply dwp_ret
      | fail)
    exact cancel_bad (by unfold cancelE; rw [hk]; rfl) (by decide) (Above.set hab4 (Nat.le_succ _) _) (((i1.mono aboveQ).set lt2).older hab2.le)
  | true =>
    rcases takeE_two (kOk_check hk) q with hT | hT
    · skip
      refine enter rfl Try.func41 rfl Try.ntmps41 rfl ?_
      dsimp only [List.cons_append, List.nil_append, List.length_cons, List.length_nil, List.replicate_succ, List.replicate_zero, Nat.reduceAdd, Nat.reduceSub]
      repeat' (first
        | dsimp only [putD, DV.cells, DH.new_next, DH.set_next, List.length_cons, List.length_nil, Nat.reduceAdd, List.set_cons_zero, List.set_cons_succ, getD_zero, getD_succ, fieldAt_zero, fieldAt_succ, thenD, blockD, retR]
        | (refine ⟨_, resOf_ct (loadD_at rfl (by repeat (first | with_reducible assumption | (with_reducible apply obj_here; with_reducible rfl) | with_reducible apply obj_set | (with_reducible apply obj_skip_lo; (· ((repeat (first | with_reducible assumption | with_reducible apply Lo.self | with_reducible apply Lo.new | with_reducible apply Lo.set | with_reducible apply Lo.self1 | with_reducible apply Lo.self2)); done))) | (with_reducible apply obj_past; (· ((first | with_reducible assumption | with_reducible apply ne_add1 | with_reducible apply ne_add1' | with_reducible apply ne_add2 | with_reducible apply ne_add2' | with_reducible apply ne_add12 | with_reducible apply ne_add21 | (with_reducible apply Lo.ne; (repeat (first | with_reducible assumption | with_reducible apply Lo.self | with_reducible apply Lo.new | with_reducible apply Lo.set | with_reducible apply Lo.self1 | with_reducible apply Lo.self2)); done) | (with_reducible apply Lo.ne1; (repeat (first | with_reducible assumption | with_reducible apply Lo.self | with_reducible apply Lo.new | with_reducible apply Lo.set | with_reducible apply Lo.self1 | with_reducible apply Lo.self2)); done) | (with_reducible apply Lo.ne'; (repeat (first | with_reducible assumption | with_reducible apply Lo.self | with_reducible apply Lo.new | with_reducible apply Lo.set | with_reducible apply Lo.self1 | with_reducible apply Lo.self2)); done) | (with_reducible apply Lo.ne1'; (repeat (first | with_reducible assumption | with_reducible apply Lo.self | with_reducible apply Lo.new | with_reducible apply Lo.set | with_reducible apply Lo.self1 | with_reducible apply Lo.self2)); done)); done))) | exact obj_here rfl)) rfl rfl), ?_⟩)
        | apply dwp_seq
        | apply dwp_region
        | apply ops_nil
        | (apply ops_plain; (· exact rfl))
        | (apply op_call; (· exact rfl); (· exact rfl); (· exact rfl); refine (copy36 _ p c ex l nx now hor (hl.mono hab2) hn).mono ?_; rintro r H1 ⟨ab1, s1, rfl, p1, c1, e1, rfl, it1, if1⟩; have i1 : ItsF _ H1 (.sl p1 l.length c1 e1) l := ⟨p1, c1, e1, rfl, it1, if1⟩; have F := AfterC.of ab1; have aa1 := F.aa; have hob1 := F.ob; have hox1 := F.ox; have lt1 := F.lt; have hlb1 : Lo H1 (H.next + 1) := lo lt1; have hlx1 : Lo H1 H.next := lo (Nat.lt_of_succ_lt lt1); have hab4 : ∀ {o o'}, Above H ((H1.new o).set H1.next o') := fun {o o'} => aa1.trans aboveQ)
        | (apply op_call; (· exact rfl); (· exact rfl); (· exact rfl); refine call_table (g := gKc) rfl (kc_t (⟨_, _, _, rfl, hl.mono (by first | exact hab4 | exact hab2)⟩ : Its _ (.sl p l.length c ex) l)) ?_; rw [hk, if_pos rfl])
        | (apply op_call; (· exact rfl); (· exact rfl); (· exact rfl); refine (CallWp.up upK5 (rtake_c q (⟨_, _, _, rfl, hl.mono hab4⟩ : Its _ (.sl p l.length c ex) l) hn)).mono ?_; rintro r H4 ⟨ab4, s4, rfl, p4, c4, e4, rfl, it4, if4⟩; rw [hT]; have hoc4 := ab4.obj (l := H1.next) ltc4 oc4; have hob4 := ab4.obj (l := H.next + 1) F.ltb4 F.ob4; have hlc4 : Lo H4 H1.next := lo (Nat.lt_of_lt_of_le ltc4 ab4.le); have hlb4 : Lo H4 (H.next + 1) := lo (Nat.lt_of_lt_of_le F.ltb4 ab4.le); have nec' : H.next + 1 ≠ H1.next := Nat.ne_of_lt lt1; have nec'' : H1.next ≠ H.next + 1 := Nat.ne_of_gt lt1; have aa4 : Above H H4 := hab4.trans ab4)
        | (apply op_store_at; (· exact rfl); (· exact rfl); (· exact rfl); (· exact obj_here rfl); (· exact rfl); (· exact rfl); (· exact rfl))
        | (apply op_load_at; (· exact rfl); (· exact rfl); (· repeat (first | with_reducible assumption | (with_reducible apply obj_here; with_reducible rfl) | with_reducible apply obj_set | (with_reducible apply obj_skip_lo; (· ((repeat (first | with_reducible assumption | with_reducible apply Lo.self | with_reducible apply Lo.new | with_reducible apply Lo.set | with_reducible apply Lo.self1 | with_reducible apply Lo.self2)); done))) | (with_reducible apply obj_past; (· ((first | with_reducible assumption | with_reducible apply ne_add1 | with_reducible apply ne_add1' | with_reducible apply ne_add2 | with_reducible apply ne_add2' | with_reducible apply ne_add12 | with_reducible apply ne_add21 | (with_reducible apply Lo.ne; (repeat (first | with_reducible assumption | with_reducible apply Lo.self | with_reducible apply Lo.new | with_reducible apply Lo.set | with_reducible apply Lo.self1 | with_reducible apply Lo.self2)); done) | (with_reducible apply Lo.ne1; (repeat (first | with_reducible assumption | with_reducible apply Lo.self | with_reducible apply Lo.new | with_reducible apply Lo.set | with_reducible apply Lo.self1 | with_reducible apply Lo.self2)); done) | (with_reducible apply Lo.ne'; (repeat (first | with_reducible assumption | with_reducible apply Lo.self | with_reducible apply Lo.new | with_reducible apply Lo.set | with_reducible apply Lo.self1 | with_reducible apply Lo.self2)); done) | (with_reducible apply Lo.ne1'; (repeat (first | with_reducible assumption | with_reducible apply Lo.self | with_reducible apply Lo.new | with_reducible apply Lo.set | with_reducible apply Lo.self1 | with_reducible apply Lo.self2)); done)); done))) | exact obj_here rfl)); (· exact rfl); (· exact rfl))
        | (apply op_store_at; (· exact rfl); (· exact rfl); (· exact rfl); (· repeat (first | with_reducible assumption | (with_reducible apply obj_here; with_reducible rfl) | with_reducible apply obj_set | (with_reducible apply obj_skip_lo; (· ((repeat (first | with_reducible assumption | with_reducible apply Lo.self | with_reducible apply Lo.new | with_reducible apply Lo.set | with_reducible apply Lo.self1 | with_reducible apply Lo.self2)); done))) | (with_reducible apply obj_past; (· ((first | with_reducible assumption | with_reducible apply ne_add1 | with_reducible apply ne_add1' | with_reducible apply ne_add2 | with_reducible apply ne_add2' | with_reducible apply ne_add12 | with_reducible apply ne_add21 | (with_reducible apply Lo.ne; (repeat (first | with_reducible assumption | with_reducible apply Lo.self | with_reducible apply Lo.new | with_reducible apply Lo.set | with_reducible apply Lo.self1 | with_reducible apply Lo.self2)); done) | (with_reducible apply Lo.ne1; (repeat (first | with_reducible assumption | with_reducible apply Lo.self | with_reducible apply Lo.new | with_reducible apply Lo.set | with_reducible apply Lo.self1 | with_reducible apply Lo.self2)); done) | (with_reducible apply Lo.ne'; (repeat (first | with_reducible assumption | with_reducible apply Lo.self | with_reducible apply Lo.new | with_reducible apply Lo.set | with_reducible apply Lo.self1 | with_reducible apply Lo.self2)); done) | (with_reducible apply Lo.ne1'; (repeat (first | with_reducible assumption | with_reducible apply Lo.self | with_reducible apply Lo.new | with_reducible apply Lo.set | with_reducible apply Lo.self1 | with_reducible apply Lo.self2)); done)); done))) | exact obj_here rfl)); (· exact rfl); (· exact rfl); (· exact rfl))
        | (apply op_at; (· exact rfl))
        | (apply dwp_cond_f; (· exact rfl); (· (first | with_reducible assumption | with_reducible rfl | decide)))
        | apply dwp_skip
        | apply dwp_ret
        | fail)
      exact cancel_good (by unfold cancelE; rw [hk]; exact hT) ((Above.set (aa4.trans aboveQ) aa1.le _).set (Nat.le_succ _) _) (((ItsF.set (ItsF.mono ⟨p4, c4, e4, rfl, it4, if4⟩ aboveQ) ltc4).set F.ltb4).older hab4.le)
    · skip
      refine enter rfl Try.func41 rfl Try.ntmps41 rfl ?_
      dsimp only [List.cons_append, List.nil_append, List.length_cons, List.length_nil, List.replicate_succ, List.replicate_zero, Nat.reduceAdd, Nat.reduceSub]
      repeat' (first
        | dsimp only [putD, DV.cells, DH.new_next, DH.set_next, List.length_cons, List.length_nil, Nat.reduceAdd, List.set_cons_zero, List.set_cons_succ, getD_zero, getD_succ, fieldAt_zero, fieldAt_succ, thenD, blockD, retR]
        | (refine ⟨_, resOf_ct (loadD_at rfl (by repeat (first | with_reducible assumption | (with_reducible apply obj_here; with_reducible rfl) | with_reducible apply obj_set | (with_reducible apply obj_skip_lo; (· ((repeat (first | with_reducible assumption | with_reducible apply Lo.self | with_reducible apply Lo.new | with_reducible apply Lo.set | with_reducible apply Lo.self1 | with_reducible apply Lo.self2)); done))) | (with_reducible apply obj_past; (· ((first | with_reducible assumption | with_reducible apply ne_add1 | with_reducible apply ne_add1' | with_reducible apply ne_add2 | with_reducible apply ne_add2' | with_reducible apply ne_add12 | with_reducible apply ne_add21 | (with_reducible apply Lo.ne; (repeat (first | with_reducible assumption | with_reducible apply Lo.self | with_reducible apply Lo.new | with_reducible apply Lo.set | with_reducible apply Lo.self1 | with_reducible apply Lo.self2)); done) | (with_reducible apply Lo.ne1; (repeat (first | with_reducible assumption | with_reducible apply Lo.self | with_reducible apply Lo.new | with_reducible apply Lo.set | with_reducible apply Lo.self1 | with_reducible apply Lo.self2)); done) | (with_reducible apply Lo.ne'; (repeat (first | with_reducible assumption | with_reducible apply Lo.self | with_reducible apply Lo.new | with_reducible apply Lo.set | with_reducible apply Lo.self1 | with_reducible apply Lo.self2)); done) | (with_reducible apply Lo.ne1'; (repeat (first | with_reducible assumption | with_reducible apply Lo.self | with_reducible apply Lo.new | with_reducible apply Lo.set | with_reducible apply Lo.self1 | with_reducible apply Lo.self2)); done)); done))) | exact obj_here rfl)) rfl rfl), ?_⟩)
        | apply dwp_seq
        | apply dwp_region
        | apply ops_nil
        | (apply ops_plain; (· exact rfl))
        | (apply op_call; (· exact rfl); (· exact rfl); (· exact rfl); refine (copy36 _ p c ex l nx now hor (hl.mono hab2) hn).mono ?_; rintro r H1 ⟨ab1, s1, rfl, p1, c1, e1, rfl, it1, if1⟩; have i1 : ItsF _ H1 (.sl p1 l.length c1 e1) l := ⟨p1, c1, e1, rfl, it1, if1⟩; have F := AfterC.of ab1; have aa1 := F.aa; have hob1 := F.ob; have hox1 := F.ox; have lt1 := F.lt; have hlb1 : Lo H1 (H.next + 1) := lo lt1; have hlx1 : Lo H1 H.next := lo (Nat.lt_of_succ_lt lt1); have hab4 : ∀ {o o'}, Above H ((H1.new o).set H1.next o') := fun {o o'} => aa1.trans aboveQ)
        | (apply op_call; (· exact rfl); (· exact rfl); (· exact rfl); refine call_table (g := gKc) rfl (kc_t (⟨_, _, _, rfl, hl.mono (by first | exact hab4 | exact hab2)⟩ : Its _ (.sl p l.length c ex) l)) ?_; rw [hk, if_pos rfl])
        | (apply op_call; (· exact rfl); (· exact rfl); (· exact rfl); refine (CallWp.up upK5 (rtake_c q (⟨_, _, _, rfl, hl.mono hab4⟩ : Its _ (.sl p l.length c ex) l) hn)).mono ?_; rintro r H4 ⟨ab4, s4, rfl, p4, c4, e4, rfl, it4, if4⟩; rw [hT]; have hoc4 := ab4.obj (l := H1.next) ltc4 oc4; have hob4 := ab4.obj (l := H.next + 1) F.ltb4 F.ob4; have hlc4 : Lo H4 H1.next := lo (Nat.lt_of_lt_of_le ltc4 ab4.le); have hlb4 : Lo H4 (H.next + 1) := lo (Nat.lt_of_lt_of_le F.ltb4 ab4.le); have nec' : H.next + 1 ≠ H1.next := Nat.ne_of_lt lt1; have nec'' : H1.next ≠ H.next + 1 := Nat.ne_of_gt lt1; have aa4 : Above H H4 := hab4.trans ab4)
        | (apply op_store_at; (· exact rfl); (· exact rfl); (· exact rfl); (· exact obj_here rfl); (· exact rfl); (· exact rfl); (· exact rfl))
        | (apply op_load_at; (· exact rfl); (· exact rfl); (· repeat (first | with_reducible assumption | (with_reducible apply obj_here; with_reducible rfl) | with_reducible apply obj_set | (with_reducible apply obj_skip_lo; (· ((repeat (first | with_reducible assumption | with_reducible apply Lo.self | with_reducible apply Lo.new | with_reducible apply Lo.set | with_reducible apply Lo.self1 | with_reducible apply Lo.self2)); done))) | (with_reducible apply obj_past; (· ((first | with_reducible assumption | with_reducible apply ne_add1 | with_reducible apply ne_add1' | with_reducible apply ne_add2 | with_reducible apply ne_add2' | with_reducible apply ne_add12 | with_reducible apply ne_add21 | (with_reducible apply Lo.ne; (repeat (first | with_reducible assumption | with_reducible apply Lo.self | with_reducible apply Lo.new | with_reducible apply Lo.set | with_reducible apply Lo.self1 | with_reducible apply Lo.self2)); done) | (with_reducible apply Lo.ne1; (repeat (first | with_reducible assumption | with_reducible apply Lo.self | with_reducible apply Lo.new | with_reducible apply Lo.set | with_reducible apply Lo.self1 | with_reducible apply Lo.self2)); done) | (with_reducible apply Lo.ne'; (repeat (first | with_reducible assumption | with_reducible apply Lo.self | with_reducible apply Lo.new | with_reducible apply Lo.set | with_reducible apply Lo.self1 | with_reducible apply Lo.self2)); done) | (with_reducible apply Lo.ne1'; (repeat (first | with_reducible assumption | with_reducible apply Lo.self | with_reducible apply Lo.new | with_reducible apply Lo.set | with_reducible apply Lo.self1 | with_reducible apply Lo.self2)); done)); done))) | exact obj_here rfl)); (· exact rfl); (· exact rfl))
        | (apply op_store_at; (· exact rfl); (· exact rfl); (· exact rfl); (· repeat (first | with_reducible assumption | (with_reducible apply obj_here; with_reducible rfl) | with_reducible apply obj_set | (with_reducible apply obj_skip_lo; (· ((repeat (first | with_reducible assumption | with_reducible apply Lo.self | with_reducible apply Lo.new | with_reducible apply Lo.set | with_reducible apply Lo.self1 | with_reducible apply Lo.self2)); done))) | (with_reducible apply obj_past; (· ((first | with_reducible assumption | with_reducible apply ne_add1 | with_reducible apply ne_add1' | with_reducible apply ne_add2 | with_reducible apply ne_add2' | with_reducible apply ne_add12 | with_reducible apply ne_add21 | (with_reducible apply Lo.ne; (repeat (first | with_reducible assumption | with_reducible apply Lo.self | with_reducible apply Lo.new | with_reducible apply Lo.set | with_reducible apply Lo.self1 | with_reducible apply Lo.self2)); done) | (with_reducible apply Lo.ne1; (repeat (first | with_reducible assumption | with_reducible apply Lo.self | with_reducible apply Lo.new | with_reducible apply Lo.set | with_reducible apply Lo.self1 | with_reducible apply Lo.self2)); done) | (with_reducible apply Lo.ne'; (repeat (first | with_reducible assumption | with_reducible apply Lo.self | with_reducible apply Lo.new | with_reducible apply Lo.set | with_reducible apply Lo.self1 | with_reducible apply Lo.self2)); done) | (with_reducible apply Lo.ne1'; (repeat (first | with_reducible assumption | with_reducible apply Lo.self | with_reducible apply Lo.new | with_reducible apply Lo.set | with_reducible apply Lo.self1 | with_reducible apply Lo.self2)); done)); done))) | exact obj_here rfl)); (· exact rfl); (· exact rfl); (· exact rfl))
        | (apply op_at; (· exact rfl))
        | (apply dwp_cond_t; (· exact rfl); (· (first | with_reducible assumption | with_reducible rfl | decide)))
        | (apply dwp_cond_f; (· exact rfl); (· (first | with_reducible assumption | with_reducible rfl | decide)))
        | apply dwp_skip
        | apply dwp_ret
        | fail)
      exact cancel_bad (by unfold cancelE; rw [hk]; exact hT) (by decide) (Above.set (aa4.trans aboveQ) (Nat.le_succ _) _) (((i1.mono (aboveQ.trans (ab4.trans aboveQ))).set lt2).older hab2.le)
end
end Go.Det.Q

/- Kernels: Step. -/
namespace Go.Det.Q
open Go Go.Det Go.Proofs
set_option maxRecDepth 4000
set_option maxHeartbeats 8000000
set_option linter.unusedVariables false
set_option linter.unusedSimpArgs false
def stepE (l : List Item) (nx now hor : Int) : Int := if peekE l nx now hor = 0 then (if decide ((g l 0).a > hor) then 2 else 0) else peekE l nx now hor
def StepS (H : DH) (l good : List Item) (nx now hor : Int) (r : DV) (H' : DH) : Prop :=
  Above H H' ∧ ∃ s', r = .tuple [.agg [s', .int .u64 nx, .int .i64 (if stepE l nx now hor = 0 then (g l 0).a else now), .int .i64 hor], .agg (if stepE l nx now hor = 0 then g l 0 else zeroI).cells, .int .i64 (stepE l nx now hor)] ∧ ItsF H H' s' (if stepE l nx now hor = 0 then good else l)
theorem step_bad {H H' : DH} {l good : List Item} {nx now hor e : Int} {s' : DV} (he : stepE l nx now hor = e) (h0 : e ≠ 0) (ab : Above H H') (i : ItsF H H' s' l) : StepS H l good nx now hor (.tuple [.agg [s', .int .u64 nx, .int .i64 now, .int .i64 hor], .agg zeroI.cells, .int .i64 e]) H' := by
  subst he
  unfold StepS
  rw [if_neg h0, if_neg h0, if_neg h0]
  exact ⟨ab, s', rfl, i⟩
theorem step_good {H H' : DH} {l good : List Item} {nx now hor : Int} {s' : DV} (he : stepE l nx now hor = 0) (ab : Above H H') (i : ItsF H H' s' good) : StepS H l good nx now hor (.tuple [.agg [s', .int .u64 nx, .int .i64 (g l 0).a, .int .i64 hor], .agg (g l 0).cells, .int .i64 0]) H' := by
  unfold StepS
  rw [he]
  exact ⟨ab, s', rfl, i⟩
theorem peekE_three (l : List Item) (nx now hor : Int) : peekE l nx now hor = 0 ∨ peekE l nx now hor = 1 ∨ peekE l nx now hor = 8 := by
  unfold peekE
  split
  · split <;> simp
  · simp
theorem peek_ok {l : List Item} {nx now hor : Int} (h : peekE l nx now hor = 0) : kOk l nx now hor = true ∧ l ≠ [] := by
  unfold peekE at h
  split at h
  · rename_i hk
    split at h
    · cases h
    · rename_i hne; exact ⟨hk, hne⟩
  · cases h
section
variable {H : DH} {a b d z : DObj} {o : Option DObj}
theorem s4_0 : (((((H.new a).new b).new d).new z).set (H.next + 1 + 1 + 1) o).obj H.next = some a := by
  rw [set_other (show H.next ≠ H.next + 1 + 1 + 1 by omega), obj_new_lt (show H.next < H.next + 1 + 1 + 1 by omega), obj_new_lt (show H.next < H.next + 1 + 1 by omega), obj_new_lt (show H.next < H.next + 1 by omega)]; exact obj_here rfl
theorem s4_1 : (((((H.new a).new b).new d).new z).set (H.next + 1 + 1 + 1) o).obj (H.next + 1) = some b := by
  rw [set_other (show H.next + 1 ≠ H.next + 1 + 1 + 1 by omega), obj_new_lt (show H.next + 1 < H.next + 1 + 1 + 1 by omega), obj_new_lt (show H.next + 1 < H.next + 1 + 1 by omega)]; exact obj_here rfl
theorem s4_2 : (((((H.new a).new b).new d).new z).set (H.next + 1 + 1 + 1) o).obj (H.next + 1 + 1) = some d := by
  rw [set_other (show H.next + 1 + 1 ≠ H.next + 1 + 1 + 1 by omega), obj_new_lt (show H.next + 1 + 1 < H.next + 1 + 1 + 1 by omega)]; exact obj_here rfl
theorem s4_3 : (((((H.new a).new b).new d).new z).set (H.next + 1 + 1 + 1) o).obj (H.next + 1 + 1 + 1) = o := obj_setA
theorem s4_above : Above H (((((H.new a).new b).new d).new z).set (H.next + 1 + 1 + 1) o) := (((((Above.refl H).new _).new _).new _).new _).set (show H.next ≤ H.next + 1 + 1 + 1 by omega) _
theorem s3_above : Above H (((H.new a).new b).new d) := (((Above.refl H).new _).new _).new _
end
/-- What lies where, behind what grew from four blocks. -/
structure AfterD (H H1 : DH) (a b d : DObj) (o : Option DObj) : Prop where
  aa : Above H H1
  o0 : H1.obj H.next = some a
  o1 : H1.obj (H.next + 1) = some b
  o2 : H1.obj (H.next + 1 + 1) = some d
  o3 : ∀ x, o = some x → H1.obj (H.next + 1 + 1 + 1) = some x
  lt : H.next + 1 + 1 + 1 < H1.next
theorem AfterD.of {H H1 : DH} {a b d z : DObj} {o : Option DObj} (ab : Above (((((H.new a).new b).new d).new z).set (H.next + 1 + 1 + 1) o) H1) : AfterD H H1 a b d o where
  aa := s4_above.trans ab
  o0 := ab.obj (show H.next < H.next + 1 + 1 + 1 + 1 by omega) s4_0
  o1 := ab.obj (show H.next + 1 < H.next + 1 + 1 + 1 + 1 by omega) s4_1
  o2 := ab.obj (show H.next + 1 + 1 < H.next + 1 + 1 + 1 + 1 by omega) s4_2
  o3 := fun x hx => ab.obj (show H.next + 1 + 1 + 1 < H.next + 1 + 1 + 1 + 1 by omega) (s4_3.trans hx)
  lt := Nat.lt_of_lt_of_le (show H.next + 1 + 1 + 1 < H.next + 1 + 1 + 1 + 1 by omega) ab.le
section
variable (H : DH) (p : Option (Nat × Nat × Nat)) (c : Nat) (ex : Bool) (l : List Item) (nx now hor : Int) (hl : It H p c ex l) (hn : l.length ≤ 1000000)
include hl hn
theorem step42 : CallWp Try.prog K5 42 [.agg [.sl p l.length c ex, .int .u64 nx, .int .i64 now, .int .i64 hor]] H (StepS H l (popV l) nx now hor) := by
  rcases peekE_three l nx now hor with hE | hE | hE
  · obtain ⟨hk, hne⟩ := peek_ok hE
    have hX : peekX l nx now hor = g l 0 := by unfold peekX; rw [hE]; rfl
    have hP : popE l = 0 := popE_ok (kOk_check hk) hne
    cases hg : decide ((g l 0).a > hor) with
    | true =>
      refine enter rfl Try.func42 rfl Try.ntmps42 rfl ?_
      dsimp only [List.cons_append, List.nil_append, List.length_cons, List.length_nil, List.replicate_succ, List.replicate_zero, Nat.reduceAdd, Nat.reduceSub]
      repeat' (first
        | dsimp only [putD, DV.cells, DH.new_next, DH.set_next, List.length_cons, List.length_nil, Nat.reduceAdd, List.set_cons_zero, List.set_cons_succ, getD_zero, getD_succ, fieldAt_zero, fieldAt_succ, thenD, blockD, retR]
        | (refine ⟨_, resOf_cct (loadD_at rfl (by repeat (first | with_reducible assumption | (with_reducible apply obj_here; with_reducible rfl) | with_reducible apply obj_set | (with_reducible apply obj_skip_lo; (· ((repeat (first | with_reducible assumption | with_reducible apply Lo.self | with_reducible apply Lo.new | with_reducible apply Lo.set | with_reducible apply Lo.self1 | with_reducible apply Lo.self2)); done))) | (with_reducible apply obj_past; (· ((first | with_reducible assumption | with_reducible apply ne_add1 | with_reducible apply ne_add1' | with_reducible apply ne_add2 | with_reducible apply ne_add2' | with_reducible apply ne_add12 | with_reducible apply ne_add21 | (with_reducible apply Lo.ne; (repeat (first | with_reducible assumption | with_reducible apply Lo.self | with_reducible apply Lo.new | with_reducible apply Lo.set | with_reducible apply Lo.self1 | with_reducible apply Lo.self2)); done) | (with_reducible apply Lo.ne1; (repeat (first | with_reducible assumption | with_reducible apply Lo.self | with_reducible apply Lo.new | with_reducible apply Lo.set | with_reducible apply Lo.self1 | with_reducible apply Lo.self2)); done) | (with_reducible apply Lo.ne'; (repeat (first | with_reducible assumption | with_reducible apply Lo.self | with_reducible apply Lo.new | with_reducible apply Lo.set | with_reducible apply Lo.self1 | with_reducible apply Lo.self2)); done) | (with_reducible apply Lo.ne1'; (repeat (first | with_reducible assumption | with_reducible apply Lo.self | with_reducible apply Lo.new | with_reducible apply Lo.set | with_reducible apply Lo.self1 | with_reducible apply Lo.self2)); done)); done))) | exact obj_here rfl)) rfl rfl) (loadD_at rfl (by repeat (first | with_reducible assumption | (with_reducible apply obj_here; with_reducible rfl) | with_reducible apply obj_set | (with_reducible apply obj_skip_lo; (· ((repeat (first | with_reducible assumption | with_reducible apply Lo.self | with_reducible apply Lo.new | with_reducible apply Lo.set | with_reducible apply Lo.self1 | with_reducible apply Lo.self2)); done))) | (with_reducible apply obj_past; (· ((first | with_reducible assumption | with_reducible apply ne_add1 | with_reducible apply ne_add1' | with_reducible apply ne_add2 | with_reducible apply ne_add2' | with_reducible apply ne_add12 | with_reducible apply ne_add21 | (with_reducible apply Lo.ne; (repeat (first | with_reducible assumption | with_reducible apply Lo.self | with_reducible apply Lo.new | with_reducible apply Lo.set | with_reducible apply Lo.self1 | with_reducible apply Lo.self2)); done) | (with_reducible apply Lo.ne1; (repeat (first | with_reducible assumption | with_reducible apply Lo.self | with_reducible apply Lo.new | with_reducible apply Lo.set | with_reducible apply Lo.self1 | with_reducible apply Lo.self2)); done) | (with_reducible apply Lo.ne'; (repeat (first | with_reducible assumption | with_reducible apply Lo.self | with_reducible apply Lo.new | with_reducible apply Lo.set | with_reducible apply Lo.self1 | with_reducible apply Lo.self2)); done) | (with_reducible apply Lo.ne1'; (repeat (first | with_reducible assumption | with_reducible apply Lo.self | with_reducible apply Lo.new | with_reducible apply Lo.set | with_reducible apply Lo.self1 | with_reducible apply Lo.self2)); done)); done))) | exact obj_here rfl)) rfl rfl), ?_⟩)
        | apply dwp_seq
        | apply dwp_region
        | apply ops_nil
        | (apply ops_plain; (· exact rfl))
        | (apply ops_on; (· exact rfl); (· exact rfl); (· (first | with_reducible assumption | with_reducible rfl | decide)))
        | (apply op_call; (· exact rfl); (· exact rfl); (· exact rfl); refine call_table (g := gPeek) rfl (peek_t (⟨_, _, _, rfl, hl.mono s3_above⟩ : Its _ (.sl p l.length c ex) l)) ?_; rw [hE, hX])
        | (apply op_call; (· exact rfl); (· exact rfl); (· exact rfl); refine (own64 _ p c ex l nx now hor (hl.mono s4_above) hn).mono ?_; rintro r H5 ⟨ab5, s5, rfl, p5, c5, e5, rfl, it5, if5⟩; have i5 : ItsF _ H5 (.sl p5 l.length c5 e5) l := ⟨p5, c5, e5, rfl, it5, if5⟩; have F := AfterD.of ab5; have aa5 := F.aa; have ho0 := F.o0; have ho1 := F.o1; have ho2 := F.o2; have ne12 : H.next + 1 ≠ H.next + 1 + 1 := (by omega); have ne21 : H.next + 1 + 1 ≠ H.next + 1 := (by omega))
        | (apply op_pick_t; (· exact rfl); (· exact rfl); (· (first | with_reducible assumption | with_reducible rfl | decide)); (· exact rfl))
        | (apply op_store_at; (· exact rfl); (· exact rfl); (· exact rfl); (· exact obj_here rfl); (· exact rfl); (· exact rfl); (· exact rfl))
        | (apply op_load_at; (· exact rfl); (· exact rfl); (· exact s4_0); (· exact rfl); (· exact rfl))
        | (apply op_load_at; (· exact rfl); (· exact rfl); (· exact s4_3); (· exact rfl); (· exact rfl))
        | (apply op_store_at; (· exact rfl); (· exact rfl); (· exact rfl); (· exact (set_other ne21).trans ho2); (· exact rfl); (· exact rfl); (· exact rfl))
        | (apply op_load_at; (· exact rfl); (· exact rfl); (· repeat (first | with_reducible assumption | (with_reducible apply obj_here; with_reducible rfl) | with_reducible apply obj_set | (with_reducible apply obj_skip_lo; (· ((repeat (first | with_reducible assumption | with_reducible apply Lo.self | with_reducible apply Lo.new | with_reducible apply Lo.set | with_reducible apply Lo.self1 | with_reducible apply Lo.self2)); done))) | (with_reducible apply obj_past; (· ((first | with_reducible assumption | with_reducible apply ne_add1 | with_reducible apply ne_add1' | with_reducible apply ne_add2 | with_reducible apply ne_add2' | with_reducible apply ne_add12 | with_reducible apply ne_add21 | (with_reducible apply Lo.ne; (repeat (first | with_reducible assumption | with_reducible apply Lo.self | with_reducible apply Lo.new | with_reducible apply Lo.set | with_reducible apply Lo.self1 | with_reducible apply Lo.self2)); done) | (with_reducible apply Lo.ne1; (repeat (first | with_reducible assumption | with_reducible apply Lo.self | with_reducible apply Lo.new | with_reducible apply Lo.set | with_reducible apply Lo.self1 | with_reducible apply Lo.self2)); done) | (with_reducible apply Lo.ne'; (repeat (first | with_reducible assumption | with_reducible apply Lo.self | with_reducible apply Lo.new | with_reducible apply Lo.set | with_reducible apply Lo.self1 | with_reducible apply Lo.self2)); done) | (with_reducible apply Lo.ne1'; (repeat (first | with_reducible assumption | with_reducible apply Lo.self | with_reducible apply Lo.new | with_reducible apply Lo.set | with_reducible apply Lo.self1 | with_reducible apply Lo.self2)); done)); done))) | exact obj_here rfl)); (· exact rfl); (· exact rfl))
        | (apply op_store_at; (· exact rfl); (· exact rfl); (· exact rfl); (· repeat (first | with_reducible assumption | (with_reducible apply obj_here; with_reducible rfl) | with_reducible apply obj_set | (with_reducible apply obj_skip_lo; (· ((repeat (first | with_reducible assumption | with_reducible apply Lo.self | with_reducible apply Lo.new | with_reducible apply Lo.set | with_reducible apply Lo.self1 | with_reducible apply Lo.self2)); done))) | (with_reducible apply obj_past; (· ((first | with_reducible assumption | with_reducible apply ne_add1 | with_reducible apply ne_add1' | with_reducible apply ne_add2 | with_reducible apply ne_add2' | with_reducible apply ne_add12 | with_reducible apply ne_add21 | (with_reducible apply Lo.ne; (repeat (first | with_reducible assumption | with_reducible apply Lo.self | with_reducible apply Lo.new | with_reducible apply Lo.set | with_reducible apply Lo.self1 | with_reducible apply Lo.self2)); done) | (with_reducible apply Lo.ne1; (repeat (first | with_reducible assumption | with_reducible apply Lo.self | with_reducible apply Lo.new | with_reducible apply Lo.set | with_reducible apply Lo.self1 | with_reducible apply Lo.self2)); done) | (with_reducible apply Lo.ne'; (repeat (first | with_reducible assumption | with_reducible apply Lo.self | with_reducible apply Lo.new | with_reducible apply Lo.set | with_reducible apply Lo.self1 | with_reducible apply Lo.self2)); done) | (with_reducible apply Lo.ne1'; (repeat (first | with_reducible assumption | with_reducible apply Lo.self | with_reducible apply Lo.new | with_reducible apply Lo.set | with_reducible apply Lo.self1 | with_reducible apply Lo.self2)); done)); done))) | exact obj_here rfl)); (· exact rfl); (· exact rfl); (· exact rfl))
        | (apply op_at; (· exact rfl))
        | (apply dwp_cond_t; (· exact rfl); (· (first | with_reducible assumption | with_reducible rfl | decide)))
        | (apply dwp_cond_f; (· exact rfl); (· (first | with_reducible assumption | with_reducible rfl | decide)))
        | apply dwp_skip
        | apply dwp_ret
        | fail)
      exact step_bad (by unfold stepE; first | (rw [if_neg (by rw [hE]; decide)]; exact hE) | (rw [if_pos hE, if_pos hg])) (by decide) ((aa5.set (Nat.le_succ _) _).set (Nat.le_trans (Nat.le_succ _) (Nat.le_succ _)) _) (((i5.set (show H.next + 1 < H.next + 1 + 1 + 1 + 1 by omega)).set (show H.next + 1 + 1 < H.next + 1 + 1 + 1 + 1 by omega)).older (show H.next ≤ H.next + 1 + 1 + 1 + 1 by omega))
    | false =>
      refine enter rfl Try.func42 rfl Try.ntmps42 rfl ?_
      dsimp only [List.cons_append, List.nil_append, List.length_cons, List.length_nil, List.replicate_succ, List.replicate_zero, Nat.reduceAdd, Nat.reduceSub]
      repeat' (first
        | dsimp only [putD, DV.cells, DH.new_next, DH.set_next, List.length_cons, List.length_nil, Nat.reduceAdd, List.set_cons_zero, List.set_cons_succ, getD_zero, getD_succ, fieldAt_zero, fieldAt_succ, thenD, blockD, retR]
        | (refine ⟨_, resOf_cct (loadD_at rfl (by repeat (first | with_reducible assumption | (with_reducible apply obj_here; with_reducible rfl) | with_reducible apply obj_set | (with_reducible apply obj_skip_lo; (· ((repeat (first | with_reducible assumption | with_reducible apply Lo.self | with_reducible apply Lo.new | with_reducible apply Lo.set | with_reducible apply Lo.self1 | with_reducible apply Lo.self2)); done))) | (with_reducible apply obj_past; (· ((first | with_reducible assumption | with_reducible apply ne_add1 | with_reducible apply ne_add1' | with_reducible apply ne_add2 | with_reducible apply ne_add2' | with_reducible apply ne_add12 | with_reducible apply ne_add21 | (with_reducible apply Lo.ne; (repeat (first | with_reducible assumption | with_reducible apply Lo.self | with_reducible apply Lo.new | with_reducible apply Lo.set | with_reducible apply Lo.self1 | with_reducible apply Lo.self2)); done) | (with_reducible apply Lo.ne1; (repeat (first | with_reducible assumption | with_reducible apply Lo.self | with_reducible apply Lo.new | with_reducible apply Lo.set | with_reducible apply Lo.self1 | with_reducible apply Lo.self2)); done) | (with_reducible apply Lo.ne'; (repeat (first | with_reducible assumption | with_reducible apply Lo.self | with_reducible apply Lo.new | with_reducible apply Lo.set | with_reducible apply Lo.self1 | with_reducible apply Lo.self2)); done) | (with_reducible apply Lo.ne1'; (repeat (first | with_reducible assumption | with_reducible apply Lo.self | with_reducible apply Lo.new | with_reducible apply Lo.set | with_reducible apply Lo.self1 | with_reducible apply Lo.self2)); done)); done))) | exact obj_here rfl)) rfl rfl) (loadD_at rfl (by repeat (first | with_reducible assumption | (with_reducible apply obj_here; with_reducible rfl) | with_reducible apply obj_set | (with_reducible apply obj_skip_lo; (· ((repeat (first | with_reducible assumption | with_reducible apply Lo.self | with_reducible apply Lo.new | with_reducible apply Lo.set | with_reducible apply Lo.self1 | with_reducible apply Lo.self2)); done))) | (with_reducible apply obj_past; (· ((first | with_reducible assumption | with_reducible apply ne_add1 | with_reducible apply ne_add1' | with_reducible apply ne_add2 | with_reducible apply ne_add2' | with_reducible apply ne_add12 | with_reducible apply ne_add21 | (with_reducible apply Lo.ne; (repeat (first | with_reducible assumption | with_reducible apply Lo.self | with_reducible apply Lo.new | with_reducible apply Lo.set | with_reducible apply Lo.self1 | with_reducible apply Lo.self2)); done) | (with_reducible apply Lo.ne1; (repeat (first | with_reducible assumption | with_reducible apply Lo.self | with_reducible apply Lo.new | with_reducible apply Lo.set | with_reducible apply Lo.self1 | with_reducible apply Lo.self2)); done) | (with_reducible apply Lo.ne'; (repeat (first | with_reducible assumption | with_reducible apply Lo.self | with_reducible apply Lo.new | with_reducible apply Lo.set | with_reducible apply Lo.self1 | with_reducible apply Lo.self2)); done) | (with_reducible apply Lo.ne1'; (repeat (first | with_reducible assumption | with_reducible apply Lo.self | with_reducible apply Lo.new | with_reducible apply Lo.set | with_reducible apply Lo.self1 | with_reducible apply Lo.self2)); done)); done))) | exact obj_here rfl)) rfl rfl), ?_⟩)
        | (apply drawp_read; (· (first | exact wanted_plain rfl | (apply wanted_on; (· exact rfl); (· exact rfl); (· (first | with_reducible assumption | with_reducible rfl | decide))))); (· exact rfl); (· exact rfl); (· decide +kernel); (· intro H' h; have h : _ = _ := h; exact opD_load rfl rfl (h.trans (by repeat (first | with_reducible assumption | (with_reducible apply obj_here; with_reducible rfl) | with_reducible apply obj_set | (with_reducible apply obj_skip_lo; (· ((repeat (first | with_reducible assumption | with_reducible apply Lo.self | with_reducible apply Lo.new | with_reducible apply Lo.set | with_reducible apply Lo.self1 | with_reducible apply Lo.self2)); done))) | (with_reducible apply obj_past; (· ((first | with_reducible assumption | with_reducible apply ne_add1 | with_reducible apply ne_add1' | with_reducible apply ne_add2 | with_reducible apply ne_add2' | with_reducible apply ne_add12 | with_reducible apply ne_add21 | (with_reducible apply Lo.ne; (repeat (first | with_reducible assumption | with_reducible apply Lo.self | with_reducible apply Lo.new | with_reducible apply Lo.set | with_reducible apply Lo.self1 | with_reducible apply Lo.self2)); done) | (with_reducible apply Lo.ne1; (repeat (first | with_reducible assumption | with_reducible apply Lo.self | with_reducible apply Lo.new | with_reducible apply Lo.set | with_reducible apply Lo.self1 | with_reducible apply Lo.self2)); done) | (with_reducible apply Lo.ne'; (repeat (first | with_reducible assumption | with_reducible apply Lo.self | with_reducible apply Lo.new | with_reducible apply Lo.set | with_reducible apply Lo.self1 | with_reducible apply Lo.self2)); done) | (with_reducible apply Lo.ne1'; (repeat (first | with_reducible assumption | with_reducible apply Lo.self | with_reducible apply Lo.new | with_reducible apply Lo.set | with_reducible apply Lo.self1 | with_reducible apply Lo.self2)); done)); done))) | exact obj_here rfl))) rfl rfl))
        | (apply drawp_read; (· (first | exact wanted_plain rfl | (apply wanted_on; (· exact rfl); (· exact rfl); (· (first | with_reducible assumption | with_reducible rfl | decide))))); (· exact rfl); (· exact rfl); (· decide +kernel); (· intro H' h; have h : _ ∧ _ := h; exact opD_load rfl rfl (h.1.trans (by repeat (first | with_reducible assumption | (with_reducible apply obj_here; with_reducible rfl) | with_reducible apply obj_set | (with_reducible apply obj_skip_lo; (· ((repeat (first | with_reducible assumption | with_reducible apply Lo.self | with_reducible apply Lo.new | with_reducible apply Lo.set | with_reducible apply Lo.self1 | with_reducible apply Lo.self2)); done))) | (with_reducible apply obj_past; (· ((first | with_reducible assumption | with_reducible apply ne_add1 | with_reducible apply ne_add1' | with_reducible apply ne_add2 | with_reducible apply ne_add2' | with_reducible apply ne_add12 | with_reducible apply ne_add21 | (with_reducible apply Lo.ne; (repeat (first | with_reducible assumption | with_reducible apply Lo.self | with_reducible apply Lo.new | with_reducible apply Lo.set | with_reducible apply Lo.self1 | with_reducible apply Lo.self2)); done) | (with_reducible apply Lo.ne1; (repeat (first | with_reducible assumption | with_reducible apply Lo.self | with_reducible apply Lo.new | with_reducible apply Lo.set | with_reducible apply Lo.self1 | with_reducible apply Lo.self2)); done) | (with_reducible apply Lo.ne'; (repeat (first | with_reducible assumption | with_reducible apply Lo.self | with_reducible apply Lo.new | with_reducible apply Lo.set | with_reducible apply Lo.self1 | with_reducible apply Lo.self2)); done) | (with_reducible apply Lo.ne1'; (repeat (first | with_reducible assumption | with_reducible apply Lo.self | with_reducible apply Lo.new | with_reducible apply Lo.set | with_reducible apply Lo.self1 | with_reducible apply Lo.self2)); done)); done))) | exact obj_here rfl))) rfl rfl))
        | (apply drawp_read; (· (first | exact wanted_plain rfl | (apply wanted_on; (· exact rfl); (· exact rfl); (· (first | with_reducible assumption | with_reducible rfl | decide))))); (· exact rfl); (· exact rfl); (· decide +kernel); (· intro H' h; have h : _ ∧ _ := h; exact opD_load rfl rfl (h.2.trans (by repeat (first | with_reducible assumption | (with_reducible apply obj_here; with_reducible rfl) | with_reducible apply obj_set | (with_reducible apply obj_skip_lo; (· ((repeat (first | with_reducible assumption | with_reducible apply Lo.self | with_reducible apply Lo.new | with_reducible apply Lo.set | with_reducible apply Lo.self1 | with_reducible apply Lo.self2)); done))) | (with_reducible apply obj_past; (· ((first | with_reducible assumption | with_reducible apply ne_add1 | with_reducible apply ne_add1' | with_reducible apply ne_add2 | with_reducible apply ne_add2' | with_reducible apply ne_add12 | with_reducible apply ne_add21 | (with_reducible apply Lo.ne; (repeat (first | with_reducible assumption | with_reducible apply Lo.self | with_reducible apply Lo.new | with_reducible apply Lo.set | with_reducible apply Lo.self1 | with_reducible apply Lo.self2)); done) | (with_reducible apply Lo.ne1; (repeat (first | with_reducible assumption | with_reducible apply Lo.self | with_reducible apply Lo.new | with_reducible apply Lo.set | with_reducible apply Lo.self1 | with_reducible apply Lo.self2)); done) | (with_reducible apply Lo.ne'; (repeat (first | with_reducible assumption | with_reducible apply Lo.self | with_reducible apply Lo.new | with_reducible apply Lo.set | with_reducible apply Lo.self1 | with_reducible apply Lo.self2)); done) | (with_reducible apply Lo.ne1'; (repeat (first | with_reducible assumption | with_reducible apply Lo.self | with_reducible apply Lo.new | with_reducible apply Lo.set | with_reducible apply Lo.self1 | with_reducible apply Lo.self2)); done)); done))) | exact obj_here rfl))) rfl rfl))
        | (apply drawp_move; (· (first | exact wanted_plain rfl | (apply wanted_on; (· exact rfl); (· exact rfl); (· (first | with_reducible assumption | with_reducible rfl | decide))))); (· exact rfl); (· decide +kernel); apply op_store_at; (· exact rfl); (· exact rfl); (· exact rfl); (· repeat (first | with_reducible assumption | (with_reducible apply obj_here; with_reducible rfl) | with_reducible apply obj_set | (with_reducible apply obj_skip_lo; (· ((repeat (first | with_reducible assumption | with_reducible apply Lo.self | with_reducible apply Lo.new | with_reducible apply Lo.set | with_reducible apply Lo.self1 | with_reducible apply Lo.self2)); done))) | (with_reducible apply obj_past; (· ((first | with_reducible assumption | with_reducible apply ne_add1 | with_reducible apply ne_add1' | with_reducible apply ne_add2 | with_reducible apply ne_add2' | with_reducible apply ne_add12 | with_reducible apply ne_add21 | (with_reducible apply Lo.ne; (repeat (first | with_reducible assumption | with_reducible apply Lo.self | with_reducible apply Lo.new | with_reducible apply Lo.set | with_reducible apply Lo.self1 | with_reducible apply Lo.self2)); done) | (with_reducible apply Lo.ne1; (repeat (first | with_reducible assumption | with_reducible apply Lo.self | with_reducible apply Lo.new | with_reducible apply Lo.set | with_reducible apply Lo.self1 | with_reducible apply Lo.self2)); done) | (with_reducible apply Lo.ne'; (repeat (first | with_reducible assumption | with_reducible apply Lo.self | with_reducible apply Lo.new | with_reducible apply Lo.set | with_reducible apply Lo.self1 | with_reducible apply Lo.self2)); done) | (with_reducible apply Lo.ne1'; (repeat (first | with_reducible assumption | with_reducible apply Lo.self | with_reducible apply Lo.new | with_reducible apply Lo.set | with_reducible apply Lo.self1 | with_reducible apply Lo.self2)); done)); done))) | exact obj_here rfl)); (· exact rfl); (· exact rfl); (· exact rfl); refine ⟨set_other n30, ?_⟩)
        | (apply drawp_move; (· (first | exact wanted_plain rfl | (apply wanted_on; (· exact rfl); (· exact rfl); (· (first | with_reducible assumption | with_reducible rfl | decide))))); (· exact rfl); (· decide +kernel); apply op_store_at; (· exact rfl); (· exact rfl); (· exact rfl); (· repeat (first | with_reducible assumption | (with_reducible apply obj_here; with_reducible rfl) | with_reducible apply obj_set | (with_reducible apply obj_skip_lo; (· ((repeat (first | with_reducible assumption | with_reducible apply Lo.self | with_reducible apply Lo.new | with_reducible apply Lo.set | with_reducible apply Lo.self1 | with_reducible apply Lo.self2)); done))) | (with_reducible apply obj_past; (· ((first | with_reducible assumption | with_reducible apply ne_add1 | with_reducible apply ne_add1' | with_reducible apply ne_add2 | with_reducible apply ne_add2' | with_reducible apply ne_add12 | with_reducible apply ne_add21 | (with_reducible apply Lo.ne; (repeat (first | with_reducible assumption | with_reducible apply Lo.self | with_reducible apply Lo.new | with_reducible apply Lo.set | with_reducible apply Lo.self1 | with_reducible apply Lo.self2)); done) | (with_reducible apply Lo.ne1; (repeat (first | with_reducible assumption | with_reducible apply Lo.self | with_reducible apply Lo.new | with_reducible apply Lo.set | with_reducible apply Lo.self1 | with_reducible apply Lo.self2)); done) | (with_reducible apply Lo.ne'; (repeat (first | with_reducible assumption | with_reducible apply Lo.self | with_reducible apply Lo.new | with_reducible apply Lo.set | with_reducible apply Lo.self1 | with_reducible apply Lo.self2)); done) | (with_reducible apply Lo.ne1'; (repeat (first | with_reducible assumption | with_reducible apply Lo.self | with_reducible apply Lo.new | with_reducible apply Lo.set | with_reducible apply Lo.self1 | with_reducible apply Lo.self2)); done)); done))) | exact obj_here rfl)); (· exact rfl); (· exact rfl); (· exact rfl); refine ⟨⟨set_other n01, set_other n31⟩, ?_⟩)
        | apply dwp_seq
        | apply dwp_region
        | apply ops_nil
        | (apply ops_plain; (· exact rfl))
        | (apply ops_on; (· exact rfl); (· exact rfl); (· (first | with_reducible assumption | with_reducible rfl | decide)))
        | (apply op_call; (· exact rfl); (· exact rfl); (· exact rfl); refine call_table (g := gPeek) rfl (peek_t (⟨_, _, _, rfl, hl.mono s3_above⟩ : Its _ (.sl p l.length c ex) l)) ?_; rw [hE, hX])
        | (apply op_call; (· exact rfl); (· exact rfl); (· exact rfl); refine (CallWp.up upK5 (pop_c (⟨_, _, _, rfl, hl.mono s4_above⟩ : Its _ (.sl p l.length c ex) l) hn)).mono ?_; rintro r H6 ⟨ab6, s6, rfl, p6, c6, e6, rfl, it6, if6⟩; rw [hP]; have F := AfterD.of ab6; have aa6 := F.aa; have ho0 := F.o0; have ho1 := F.o1; have ho2 := F.o2; have ho3 := F.o3 _ rfl; have n01 : H.next ≠ H.next + 1 := (by omega); have n02 : H.next ≠ H.next + 1 + 1 := (by omega); have n10 : H.next + 1 ≠ H.next := (by omega); have n12 : H.next + 1 ≠ H.next + 1 + 1 := (by omega); have n20 : H.next + 1 + 1 ≠ H.next := (by omega); have n21 : H.next + 1 + 1 ≠ H.next + 1 := (by omega); have n30 : H.next + 1 + 1 + 1 ≠ H.next := (by omega); have n31 : H.next + 1 + 1 + 1 ≠ H.next + 1 := (by omega))
        | (apply op_pick_t; (· exact rfl); (· exact rfl); (· (first | with_reducible assumption | with_reducible rfl | decide)); (· exact rfl))
        | (apply op_store_at; (· exact rfl); (· exact rfl); (· exact rfl); (· exact obj_here rfl); (· exact rfl); (· exact rfl); (· exact rfl))
        | (apply op_load_at; (· exact rfl); (· exact rfl); (· exact s4_0); (· exact rfl); (· exact rfl))
        | (apply op_load_at; (· exact rfl); (· exact rfl); (· exact s4_3); (· exact rfl); (· exact rfl))
        | (apply op_load_at; (· exact rfl); (· exact rfl); (· repeat (first | with_reducible assumption | (with_reducible apply obj_here; with_reducible rfl) | with_reducible apply obj_set | (with_reducible apply obj_skip_lo; (· ((repeat (first | with_reducible assumption | with_reducible apply Lo.self | with_reducible apply Lo.new | with_reducible apply Lo.set | with_reducible apply Lo.self1 | with_reducible apply Lo.self2)); done))) | (with_reducible apply obj_past; (· ((first | with_reducible assumption | with_reducible apply ne_add1 | with_reducible apply ne_add1' | with_reducible apply ne_add2 | with_reducible apply ne_add2' | with_reducible apply ne_add12 | with_reducible apply ne_add21 | (with_reducible apply Lo.ne; (repeat (first | with_reducible assumption | with_reducible apply Lo.self | with_reducible apply Lo.new | with_reducible apply Lo.set | with_reducible apply Lo.self1 | with_reducible apply Lo.self2)); done) | (with_reducible apply Lo.ne1; (repeat (first | with_reducible assumption | with_reducible apply Lo.self | with_reducible apply Lo.new | with_reducible apply Lo.set | with_reducible apply Lo.self1 | with_reducible apply Lo.self2)); done) | (with_reducible apply Lo.ne'; (repeat (first | with_reducible assumption | with_reducible apply Lo.self | with_reducible apply Lo.new | with_reducible apply Lo.set | with_reducible apply Lo.self1 | with_reducible apply Lo.self2)); done) | (with_reducible apply Lo.ne1'; (repeat (first | with_reducible assumption | with_reducible apply Lo.self | with_reducible apply Lo.new | with_reducible apply Lo.set | with_reducible apply Lo.self1 | with_reducible apply Lo.self2)); done)); done))) | exact obj_here rfl)); (· exact rfl); (· exact rfl))
        | (apply op_store_at; (· exact rfl); (· exact rfl); (· exact rfl); (· repeat (first | with_reducible assumption | (with_reducible apply obj_here; with_reducible rfl) | with_reducible apply obj_set | (with_reducible apply obj_skip_lo; (· ((repeat (first | with_reducible assumption | with_reducible apply Lo.self | with_reducible apply Lo.new | with_reducible apply Lo.set | with_reducible apply Lo.self1 | with_reducible apply Lo.self2)); done))) | (with_reducible apply obj_past; (· ((first | with_reducible assumption | with_reducible apply ne_add1 | with_reducible apply ne_add1' | with_reducible apply ne_add2 | with_reducible apply ne_add2' | with_reducible apply ne_add12 | with_reducible apply ne_add21 | (with_reducible apply Lo.ne; (repeat (first | with_reducible assumption | with_reducible apply Lo.self | with_reducible apply Lo.new | with_reducible apply Lo.set | with_reducible apply Lo.self1 | with_reducible apply Lo.self2)); done) | (with_reducible apply Lo.ne1; (repeat (first | with_reducible assumption | with_reducible apply Lo.self | with_reducible apply Lo.new | with_reducible apply Lo.set | with_reducible apply Lo.self1 | with_reducible apply Lo.self2)); done) | (with_reducible apply Lo.ne'; (repeat (first | with_reducible assumption | with_reducible apply Lo.self | with_reducible apply Lo.new | with_reducible apply Lo.set | with_reducible apply Lo.self1 | with_reducible apply Lo.self2)); done) | (with_reducible apply Lo.ne1'; (repeat (first | with_reducible assumption | with_reducible apply Lo.self | with_reducible apply Lo.new | with_reducible apply Lo.set | with_reducible apply Lo.self1 | with_reducible apply Lo.self2)); done)); done))) | exact obj_here rfl)); (· exact rfl); (· exact rfl); (· exact rfl))
        | (apply op_at; (· exact rfl))
        | refine dwp_drawp (id := 9) _ rfl (fun H' => H'.obj (H.next + 1 + 1 + 1) = DH.obj _ (H.next + 1 + 1 + 1)) rfl ?_
        | refine dwp_drawp (id := 10) _ rfl (fun H' => H'.obj H.next = DH.obj _ H.next ∧ H'.obj (H.next + 1 + 1 + 1) = DH.obj _ (H.next + 1 + 1 + 1)) ⟨rfl, rfl⟩ ?_
        | apply drawp_nil
        | apply tand
        | (apply drawp_pure; (· (first | exact wanted_plain rfl | (apply wanted_on; (· exact rfl); (· exact rfl); (· (first | with_reducible assumption | with_reducible rfl | decide))))); (· exact rfl); (· exact rfl); (· exact rfl))
        | (apply drawp_sync_st (fun _ => True); (· exact rfl); (· (first | exact wanted_plain rfl | (apply wanted_on; (· exact rfl); (· exact rfl); (· (first | with_reducible assumption | with_reducible rfl | decide))))); (· decide +kernel))
        | (apply dwp_cond_t; (· exact rfl); (· (first | with_reducible assumption | with_reducible rfl | decide)))
        | (apply dwp_cond_f; (· exact rfl); (· (first | with_reducible assumption | with_reducible rfl | decide)))
        | apply dwp_skip
        | apply dwp_ret
        | fail)
      have k0 : H.next < H.next + 1 + 1 + 1 + 1 := by omega
      have k1 : H.next + 1 < H.next + 1 + 1 + 1 + 1 := by omega
      have k2 : H.next + 1 + 1 < H.next + 1 + 1 + 1 + 1 := by omega
      exact step_good (by unfold stepE; rw [if_pos hE, hg]; rfl) ((((aa6.set (Nat.le_refl _) _).set (Nat.le_refl _) _).set (Nat.le_succ _) _).set (Nat.le_trans (Nat.le_succ _) (Nat.le_succ _)) _) (((((ItsF.set ⟨p6, c6, e6, rfl, it6, if6⟩ k0).set k0).set k1).set k2).older (Nat.le_of_lt k0))
  · have hX : peekX l nx now hor = zeroI := by unfold peekX; rw [hE]; rfl
    refine enter rfl Try.func42 rfl Try.ntmps42 rfl ?_
    dsimp only [List.cons_append, List.nil_append, List.length_cons, List.length_nil, List.replicate_succ, List.replicate_zero, Nat.reduceAdd, Nat.reduceSub]
    repeat' (first
      | dsimp only [putD, DV.cells, DH.new_next, DH.set_next, List.length_cons, List.length_nil, Nat.reduceAdd, List.set_cons_zero, List.set_cons_succ, getD_zero, getD_succ, fieldAt_zero, fieldAt_succ, thenD, blockD, retR]
      | (refine ⟨_, resOf_cct (loadD_at rfl (by repeat (first | with_reducible assumption | (with_reducible apply obj_here; with_reducible rfl) | with_reducible apply obj_set | (with_reducible apply obj_skip_lo; (· ((repeat (first | with_reducible assumption | with_reducible apply Lo.self | with_reducible apply Lo.new | with_reducible apply Lo.set | with_reducible apply Lo.self1 | with_reducible apply Lo.self2)); done))) | (with_reducible apply obj_past; (· ((first | with_reducible assumption | with_reducible apply ne_add1 | with_reducible apply ne_add1' | with_reducible apply ne_add2 | with_reducible apply ne_add2' | with_reducible apply ne_add12 | with_reducible apply ne_add21 | (with_reducible apply Lo.ne; (repeat (first | with_reducible assumption | with_reducible apply Lo.self | with_reducible apply Lo.new | with_reducible apply Lo.set | with_reducible apply Lo.self1 | with_reducible apply Lo.self2)); done) | (with_reducible apply Lo.ne1; (repeat (first | with_reducible assumption | with_reducible apply Lo.self | with_reducible apply Lo.new | with_reducible apply Lo.set | with_reducible apply Lo.self1 | with_reducible apply Lo.self2)); done) | (with_reducible apply Lo.ne'; (repeat (first | with_reducible assumption | with_reducible apply Lo.self | with_reducible apply Lo.new | with_reducible apply Lo.set | with_reducible apply Lo.self1 | with_reducible apply Lo.self2)); done) | (with_reducible apply Lo.ne1'; (repeat (first | with_reducible assumption | with_reducible apply Lo.self | with_reducible apply Lo.new | with_reducible apply Lo.set | with_reducible apply Lo.self1 | with_reducible apply Lo.self2)); done)); done))) | exact obj_here rfl)) rfl rfl) (loadD_at rfl (by repeat (first | with_reducible assumption | (with_reducible apply obj_here; with_reducible rfl) | with_reducible apply obj_set | (with_reducible apply obj_skip_lo; (· ((repeat (first | with_reducible assumption | with_reducible apply Lo.self | with_reducible apply Lo.new | with_reducible apply Lo.set | with_reducible apply Lo.self1 | with_reducible apply Lo.self2)); done))) | (with_reducible apply obj_past; (· ((first | with_reducible assumption | with_reducible apply ne_add1 | with_reducible apply ne_add1' | with_reducible apply ne_add2 | with_reducible apply ne_add2' | with_reducible apply ne_add12 | with_reducible apply ne_add21 | (with_reducible apply Lo.ne; (repeat (first | with_reducible assumption | with_reducible apply Lo.self | with_reducible apply Lo.new | with_reducible apply Lo.set | with_reducible apply Lo.self1 | with_reducible apply Lo.self2)); done) | (with_reducible apply Lo.ne1; (repeat (first | with_reducible assumption | with_reducible apply Lo.self | with_reducible apply Lo.new | with_reducible apply Lo.set | with_reducible apply Lo.self1 | with_reducible apply Lo.self2)); done) | (with_reducible apply Lo.ne'; (repeat (first | with_reducible assumption | with_reducible apply Lo.self | with_reducible apply Lo.new | with_reducible apply Lo.set | with_reducible apply Lo.self1 | with_reducible apply Lo.self2)); done) | (with_reducible apply Lo.ne1'; (repeat (first | with_reducible assumption | with_reducible apply Lo.self | with_reducible apply Lo.new | with_reducible apply Lo.set | with_reducible apply Lo.self1 | with_reducible apply Lo.self2)); done)); done))) | exact obj_here rfl)) rfl rfl), ?_⟩)
      | apply dwp_seq
      | apply dwp_region
      | apply ops_nil
      | (apply ops_plain; (· exact rfl))
      | (apply ops_off1; (· exact rfl); (· exact rfl); (· (first | with_reducible assumption | with_reducible rfl | decide)))
      | (apply op_call; (· exact rfl); (· exact rfl); (· exact rfl); refine call_table (g := gPeek) rfl (peek_t (⟨_, _, _, rfl, hl.mono s3_above⟩ : Its _ (.sl p l.length c ex) l)) ?_; rw [hE, hX])
      | (apply op_call; (· exact rfl); (· exact rfl); (· exact rfl); refine (own64 _ p c ex l nx now hor (hl.mono s4_above) hn).mono ?_; rintro r H5 ⟨ab5, s5, rfl, p5, c5, e5, rfl, it5, if5⟩; have i5 : ItsF _ H5 (.sl p5 l.length c5 e5) l := ⟨p5, c5, e5, rfl, it5, if5⟩; have F := AfterD.of ab5; have aa5 := F.aa; have ho0 := F.o0; have ho1 := F.o1; have ho2 := F.o2; have ne12 : H.next + 1 ≠ H.next + 1 + 1 := (by omega); have ne21 : H.next + 1 + 1 ≠ H.next + 1 := (by omega))
      | (apply op_pick_f; (· exact rfl); (· exact rfl); (· (first | with_reducible assumption | with_reducible rfl | decide)); (· exact rfl))
      | (apply op_store_at; (· exact rfl); (· exact rfl); (· exact rfl); (· exact obj_here rfl); (· exact rfl); (· exact rfl); (· exact rfl))
      | (apply op_load_at; (· exact rfl); (· exact rfl); (· exact s4_0); (· exact rfl); (· exact rfl))
      | (apply op_store_at; (· exact rfl); (· exact rfl); (· exact rfl); (· exact (set_other ne21).trans ho2); (· exact rfl); (· exact rfl); (· exact rfl))
      | (apply op_load_at; (· exact rfl); (· exact rfl); (· repeat (first | with_reducible assumption | (with_reducible apply obj_here; with_reducible rfl) | with_reducible apply obj_set | (with_reducible apply obj_skip_lo; (· ((repeat (first | with_reducible assumption | with_reducible apply Lo.self | with_reducible apply Lo.new | with_reducible apply Lo.set | with_reducible apply Lo.self1 | with_reducible apply Lo.self2)); done))) | (with_reducible apply obj_past; (· ((first | with_reducible assumption | with_reducible apply ne_add1 | with_reducible apply ne_add1' | with_reducible apply ne_add2 | with_reducible apply ne_add2' | with_reducible apply ne_add12 | with_reducible apply ne_add21 | (with_reducible apply Lo.ne; (repeat (first | with_reducible assumption | with_reducible apply Lo.self | with_reducible apply Lo.new | with_reducible apply Lo.set | with_reducible apply Lo.self1 | with_reducible apply Lo.self2)); done) | (with_reducible apply Lo.ne1; (repeat (first | with_reducible assumption | with_reducible apply Lo.self | with_reducible apply Lo.new | with_reducible apply Lo.set | with_reducible apply Lo.self1 | with_reducible apply Lo.self2)); done) | (with_reducible apply Lo.ne'; (repeat (first | with_reducible assumption | with_reducible apply Lo.self | with_reducible apply Lo.new | with_reducible apply Lo.set | with_reducible apply Lo.self1 | with_reducible apply Lo.self2)); done) | (with_reducible apply Lo.ne1'; (repeat (first | with_reducible assumption | with_reducible apply Lo.self | with_reducible apply Lo.new | with_reducible apply Lo.set | with_reducible apply Lo.self1 | with_reducible apply Lo.self2)); done)); done))) | exact obj_here rfl)); (· exact rfl); (· exact rfl))
      | (apply op_store_at; (· exact rfl); (· exact rfl); (· exact rfl); (· repeat (first | with_reducible assumption | (with_reducible apply obj_here; with_reducible rfl) | with_reducible apply obj_set | (with_reducible apply obj_skip_lo; (· ((repeat (first | with_reducible assumption | with_reducible apply Lo.self | with_reducible apply Lo.new | with_reducible apply Lo.set | with_reducible apply Lo.self1 | with_reducible apply Lo.self2)); done))) | (with_reducible apply obj_past; (· ((first | with_reducible assumption | with_reducible apply ne_add1 | with_reducible apply ne_add1' | with_reducible apply ne_add2 | with_reducible apply ne_add2' | with_reducible apply ne_add12 | with_reducible apply ne_add21 | (with_reducible apply Lo.ne; (repeat (first | with_reducible assumption | with_reducible apply Lo.self | with_reducible apply Lo.new | with_reducible apply Lo.set | with_reducible apply Lo.self1 | with_reducible apply Lo.self2)); done) | (with_reducible apply Lo.ne1; (repeat (first | with_reducible assumption | with_reducible apply Lo.self | with_reducible apply Lo.new | with_reducible apply Lo.set | with_reducible apply Lo.self1 | with_reducible apply Lo.self2)); done) | (with_reducible apply Lo.ne'; (repeat (first | with_reducible assumption | with_reducible apply Lo.self | with_reducible apply Lo.new | with_reducible apply Lo.set | with_reducible apply Lo.self1 | with_reducible apply Lo.self2)); done) | (with_reducible apply Lo.ne1'; (repeat (first | with_reducible assumption | with_reducible apply Lo.self | with_reducible apply Lo.new | with_reducible apply Lo.set | with_reducible apply Lo.self1 | with_reducible apply Lo.self2)); done)); done))) | exact obj_here rfl)); (· exact rfl); (· exact rfl); (· exact rfl))
      | (apply op_at; (· exact rfl))
      | (apply dwp_cond_t; (· exact rfl); (· (first | with_reducible assumption | with_reducible rfl | decide)))
      | (apply dwp_cond_f; (· exact rfl); (· (first | with_reducible assumption | with_reducible rfl | decide)))
      | apply dwp_skip
      | apply dwp_ret
      | fail)
    exact step_bad (by unfold stepE; first | (rw [if_neg (by rw [hE]; decide)]; exact hE) | (rw [if_pos hE, if_pos hg])) (by decide) ((aa5.set (Nat.le_succ _) _).set (Nat.le_trans (Nat.le_succ _) (Nat.le_succ _)) _) (((i5.set (show H.next + 1 < H.next + 1 + 1 + 1 + 1 by omega)).set (show H.next + 1 + 1 < H.next + 1 + 1 + 1 + 1 by omega)).older (show H.next ≤ H.next + 1 + 1 + 1 + 1 by omega))
  · have hX : peekX l nx now hor = zeroI := by unfold peekX; rw [hE]; rfl
    refine enter rfl Try.func42 rfl Try.ntmps42 rfl ?_
    dsimp only [List.cons_append, List.nil_append, List.length_cons, List.length_nil, List.replicate_succ, List.replicate_zero, Nat.reduceAdd, Nat.reduceSub]
    repeat' (first
      | dsimp only [putD, DV.cells, DH.new_next, DH.set_next, List.length_cons, List.length_nil, Nat.reduceAdd, List.set_cons_zero, List.set_cons_succ, getD_zero, getD_succ, fieldAt_zero, fieldAt_succ, thenD, blockD, retR]
      | (refine ⟨_, resOf_cct (loadD_at rfl (by repeat (first | with_reducible assumption | (with_reducible apply obj_here; with_reducible rfl) | with_reducible apply obj_set | (with_reducible apply obj_skip_lo; (· ((repeat (first | with_reducible assumption | with_reducible apply Lo.self | with_reducible apply Lo.new | with_reducible apply Lo.set | with_reducible apply Lo.self1 | with_reducible apply Lo.self2)); done))) | (with_reducible apply obj_past; (· ((first | with_reducible assumption | with_reducible apply ne_add1 | with_reducible apply ne_add1' | with_reducible apply ne_add2 | with_reducible apply ne_add2' | with_reducible apply ne_add12 | with_reducible apply ne_add21 | (with_reducible apply Lo.ne; (repeat (first | with_reducible assumption | with_reducible apply Lo.self | with_reducible apply Lo.new | with_reducible apply Lo.set | with_reducible apply Lo.self1 | with_reducible apply Lo.self2)); done) | (with_reducible apply Lo.ne1; (repeat (first | with_reducible assumption | with_reducible apply Lo.self | with_reducible apply Lo.new | with_reducible apply Lo.set | with_reducible apply Lo.self1 | with_reducible apply Lo.self2)); done) | (with_reducible apply Lo.ne'; (repeat (first | with_reducible assumption | with_reducible apply Lo.self | with_reducible apply Lo.new | with_reducible apply Lo.set | with_reducible apply Lo.self1 | with_reducible apply Lo.self2)); done) | (with_reducible apply Lo.ne1'; (repeat (first | with_reducible assumption | with_reducible apply Lo.self | with_reducible apply Lo.new | with_reducible apply Lo.set | with_reducible apply Lo.self1 | with_reducible apply Lo.self2)); done)); done))) | exact obj_here rfl)) rfl rfl) (loadD_at rfl (by repeat (first | with_reducible assumption | (with_reducible apply obj_here; with_reducible rfl) | with_reducible apply obj_set | (with_reducible apply obj_skip_lo; (· ((repeat (first | with_reducible assumption | with_reducible apply Lo.self | with_reducible apply Lo.new | with_reducible apply Lo.set | with_reducible apply Lo.self1 | with_reducible apply Lo.self2)); done))) | (with_reducible apply obj_past; (· ((first | with_reducible assumption | with_reducible apply ne_add1 | with_reducible apply ne_add1' | with_reducible apply ne_add2 | with_reducible apply ne_add2' | with_reducible apply ne_add12 | with_reducible apply ne_add21 | (with_reducible apply Lo.ne; (repeat (first | with_reducible assumption | with_reducible apply Lo.self | with_reducible apply Lo.new | with_reducible apply Lo.set | with_reducible apply Lo.self1 | with_reducible apply Lo.self2)); done) | (with_reducible apply Lo.ne1; (repeat (first | with_reducible assumption | with_reducible apply Lo.self | with_reducible apply Lo.new | with_reducible apply Lo.set | with_reducible apply Lo.self1 | with_reducible apply Lo.self2)); done) | (with_reducible apply Lo.ne'; (repeat (first | with_reducible assumption | with_reducible apply Lo.self | with_reducible apply Lo.new | with_reducible apply Lo.set | with_reducible apply Lo.self1 | with_reducible apply Lo.self2)); done) | (with_reducible apply Lo.ne1'; (repeat (first | with_reducible assumption | with_reducible apply Lo.self | with_reducible apply Lo.new | with_reducible apply Lo.set | with_reducible apply Lo.self1 | with_reducible apply Lo.self2)); done)); done))) | exact obj_here rfl)) rfl rfl), ?_⟩)
      | apply dwp_seq
      | apply dwp_region
      | apply ops_nil
      | (apply ops_plain; (· exact rfl))
      | (apply ops_off1; (· exact rfl); (· exact rfl); (· (first | with_reducible assumption | with_reducible rfl | decide)))
      | (apply op_call; (· exact rfl); (· exact rfl); (· exact rfl); refine call_table (g := gPeek) rfl (peek_t (⟨_, _, _, rfl, hl.mono s3_above⟩ : Its _ (.sl p l.length c ex) l)) ?_; rw [hE, hX])
      | (apply op_call; (· exact rfl); (· exact rfl); (· exact rfl); refine (own64 _ p c ex l nx now hor (hl.mono s4_above) hn).mono ?_; rintro r H5 ⟨ab5, s5, rfl, p5, c5, e5, rfl, it5, if5⟩; have i5 : ItsF _ H5 (.sl p5 l.length c5 e5) l := ⟨p5, c5, e5, rfl, it5, if5⟩; have F := AfterD.of ab5; have aa5 := F.aa; have ho0 := F.o0; have ho1 := F.o1; have ho2 := F.o2; have ne12 : H.next + 1 ≠ H.next + 1 + 1 := (by omega); have ne21 : H.next + 1 + 1 ≠ H.next + 1 := (by omega))
      | (apply op_pick_f; (· exact rfl); (· exact rfl); (· (first | with_reducible assumption | with_reducible rfl | decide)); (· exact rfl))
      | (apply op_store_at; (· exact rfl); (· exact rfl); (· exact rfl); (· exact obj_here rfl); (· exact rfl); (· exact rfl); (· exact rfl))
      | (apply op_load_at; (· exact rfl); (· exact rfl); (· exact s4_0); (· exact rfl); (· exact rfl))
      | (apply op_store_at; (· exact rfl); (· exact rfl); (· exact rfl); (· exact (set_other ne21).trans ho2); (· exact rfl); (· exact rfl); (· exact rfl))
      | (apply op_load_at; (· exact rfl); (· exact rfl); (· repeat (first | with_reducible assumption | (with_reducible apply obj_here; with_reducible rfl) | with_reducible apply obj_set | (with_reducible apply obj_skip_lo; (· ((repeat (first | with_reducible assumption | with_reducible apply Lo.self | with_reducible apply Lo.new | with_reducible apply Lo.set | with_reducible apply Lo.self1 | with_reducible apply Lo.self2)); done))) | (with_reducible apply obj_past; (· ((first | with_reducible assumption | with_reducible apply ne_add1 | with_reducible apply ne_add1' | with_reducible apply ne_add2 | with_reducible apply ne_add2' | with_reducible apply ne_add12 | with_reducible apply ne_add21 | (with_reducible apply Lo.ne; (repeat (first | with_reducible assumption | with_reducible apply Lo.self | with_reducible apply Lo.new | with_reducible apply Lo.set | with_reducible apply Lo.self1 | with_reducible apply Lo.self2)); done) | (with_reducible apply Lo.ne1; (repeat (first | with_reducible assumption | with_reducible apply Lo.self | with_reducible apply Lo.new | with_reducible apply Lo.set | with_reducible apply Lo.self1 | with_reducible apply Lo.self2)); done) | (with_reducible apply Lo.ne'; (repeat (first | with_reducible assumption | with_reducible apply Lo.self | with_reducible apply Lo.new | with_reducible apply Lo.set | with_reducible apply Lo.self1 | with_reducible apply Lo.self2)); done) | (with_reducible apply Lo.ne1'; (repeat (first | with_reducible assumption | with_reducible apply Lo.self | with_reducible apply Lo.new | with_reducible apply Lo.set | with_reducible apply Lo.self1 | with_reducible apply Lo.self2)); done)); done))) | exact obj_here rfl)); (· exact rfl); (· exact rfl))
      | (apply op_store_at; (· exact rfl); (· exact rfl); (· exact rfl); (· repeat (first | with_reducible assumption | (with_reducible apply obj_here; with_reducible rfl) | with_reducible apply obj_set | (with_reducible apply obj_skip_lo; (· ((repeat (first | with_reducible assumption | with_reducible apply Lo.self | with_reducible apply Lo.new | with_reducible apply Lo.set | with_reducible apply Lo.self1 | with_reducible apply Lo.self2)); done))) | (with_reducible apply obj_past; (· ((first | with_reducible assumption | with_reducible apply ne_add1 | with_reducible apply ne_add1' | with_reducible apply ne_add2 | with_reducible apply ne_add2' | with_reducible apply ne_add12 | with_reducible apply ne_add21 | (with_reducible apply Lo.ne; (repeat (first | with_reducible assumption | with_reducible apply Lo.self | with_reducible apply Lo.new | with_reducible apply Lo.set | with_reducible apply Lo.self1 | with_reducible apply Lo.self2)); done) | (with_reducible apply Lo.ne1; (repeat (first | with_reducible assumption | with_reducible apply Lo.self | with_reducible apply Lo.new | with_reducible apply Lo.set | with_reducible apply Lo.self1 | with_reducible apply Lo.self2)); done) | (with_reducible apply Lo.ne'; (repeat (first | with_reducible assumption | with_reducible apply Lo.self | with_reducible apply Lo.new | with_reducible apply Lo.set | with_reducible apply Lo.self1 | with_reducible apply Lo.self2)); done) | (with_reducible apply Lo.ne1'; (repeat (first | with_reducible assumption | with_reducible apply Lo.self | with_reducible apply Lo.new | with_reducible apply Lo.set | with_reducible apply Lo.self1 | with_reducible apply Lo.self2)); done)); done))) | exact obj_here rfl)); (· exact rfl); (· exact rfl); (· exact rfl))
      | (apply op_at; (· exact rfl))
      | (apply dwp_cond_t; (· exact rfl); (· (first | with_reducible assumption | with_reducible rfl | decide)))
      | (apply dwp_cond_f; (· exact rfl); (· (first | with_reducible assumption | with_reducible rfl | decide)))
      | apply dwp_skip
      | apply dwp_ret
      | fail)
    exact step_bad (by unfold stepE; first | (rw [if_neg (by rw [hE]; decide)]; exact hE) | (rw [if_pos hE, if_pos hg])) (by decide) ((aa5.set (Nat.le_succ _) _).set (Nat.le_trans (Nat.le_succ _) (Nat.le_succ _)) _) (((i5.set (show H.next + 1 < H.next + 1 + 1 + 1 + 1 by omega)).set (show H.next + 1 + 1 < H.next + 1 + 1 + 1 + 1 by omega)).older (show H.next ≤ H.next + 1 + 1 + 1 + 1 by omega))
end
end Go.Det.Q

/- Kernels: the reference's Step. -/
namespace Go.Det.Q
open Go Go.Det Go.Proofs
set_option maxRecDepth 4000
set_option maxHeartbeats 8000000
set_option linter.unusedVariables false
set_option linter.unusedSimpArgs false
structure AfterE (H H1 : DH) (a b d : DObj) : Prop where
  aa : Above H H1
  o0 : H1.obj H.next = some a
  o1 : H1.obj (H.next + 1) = some b
  o2 : H1.obj (H.next + 1 + 1) = some d
  lt : H.next + 1 + 1 < H1.next
theorem AfterE.of {H H1 : DH} {a b d : DObj} (ab : Above (((H.new a).new b).new d) H1) : AfterE H H1 a b d where
  aa := s3_above.trans ab
  o0 := ab.obj (show H.next < H.next + 1 + 1 + 1 by omega) (by rw [obj_new_lt (show H.next < H.next + 1 + 1 by omega), obj_new_lt (show H.next < H.next + 1 by omega)]; exact obj_here rfl)
  o1 := ab.obj (show H.next + 1 < H.next + 1 + 1 + 1 by omega) (by rw [obj_new_lt (show H.next + 1 < H.next + 1 + 1 by omega)]; exact obj_here rfl)
  o2 := ab.obj (show H.next + 1 + 1 < H.next + 1 + 1 + 1 by omega) (obj_here rfl)
  lt := Nat.lt_of_lt_of_le (show H.next + 1 + 1 < H.next + 1 + 1 + 1 by omega) ab.le
structure AfterF (H H1 H6 : DH) (a b d : DObj) (o' o2' : Option DObj) : Prop where
  aa : Above H H6
  oc : ∀ x, o' = some x → H6.obj H1.next = some x
  od : ∀ x, o2' = some x → H6.obj (H1.next + 1) = some x
  o1 : H6.obj (H.next + 1) = some b
  o2 : H6.obj (H.next + 1 + 1) = some d
  lt : H1.next + 1 < H6.next
theorem AfterF.of {H H1 H6 : DH} {a b d o z : DObj} {o' o2' : Option DObj} (F : AfterE H H1 a b d) (ab : Above ((((H1.new o).set H1.next o').new z).set (H1.next + 1) o2') H6) : AfterF H H1 H6 a b d o' o2' where
  aa := (((F.aa.trans aboveQ).new _).set (Nat.le_trans F.aa.le (Nat.le_succ _)) _).trans ab
  oc := fun x hx => ab.obj (show H1.next < H1.next + 1 + 1 by omega) (by rw [set_other (show H1.next ≠ H1.next + 1 by omega), obj_new_lt (show H1.next < H1.next + 1 by omega)]; exact oc4.trans hx)
  od := fun x hx => ab.obj (show H1.next + 1 < H1.next + 1 + 1 by omega) (obj_setA.trans hx)
  o1 := ab.obj (show H.next + 1 < H1.next + 1 + 1 by have := F.lt; omega) (by have := F.lt; rw [set_other (show H.next + 1 ≠ H1.next + 1 by omega), obj_new_lt (show H.next + 1 < H1.next + 1 by omega), set_other (show H.next + 1 ≠ H1.next by omega), obj_new_lt (show H.next + 1 < H1.next by omega)]; exact F.o1)
  o2 := ab.obj (show H.next + 1 + 1 < H1.next + 1 + 1 by have := F.lt; omega) (by have := F.lt; rw [set_other (show H.next + 1 + 1 ≠ H1.next + 1 by omega), obj_new_lt (show H.next + 1 + 1 < H1.next + 1 by omega), set_other (show H.next + 1 + 1 ≠ H1.next by omega), obj_new_lt (show H.next + 1 + 1 < H1.next by omega)]; exact F.o2)
  lt := Nat.lt_of_lt_of_le (show H1.next + 1 < H1.next + 1 + 1 by omega) ab.le
section
variable (H : DH) (p : Option (Nat × Nat × Nat)) (c : Nat) (ex : Bool) (l : List Item) (nx now hor : Int) (hl : It H p c ex l) (hn : l.length ≤ 1000000)
include hl hn
theorem step43 : CallWp Try.prog K5 43 [.agg [.sl p l.length c ex, .int .u64 nx, .int .i64 now, .int .i64 hor]] H (StepS H l ((sortL l).drop 1) nx now hor) := by
  rcases peekE_three l nx now hor with hE | hE | hE
  · obtain ⟨hk, hne⟩ := peek_ok hE
    have hX : peekX l nx now hor = g l 0 := by unfold peekX; rw [hE]; rfl
    have hlen := List.length_pos_iff.mpr hne
    have hsl := (sortL_perm l).length_eq
    cases hg : decide ((g l 0).a > hor) with
    | true =>
      refine enter rfl Try.func43 rfl Try.ntmps43 rfl ?_
      dsimp only [List.cons_append, List.nil_append, List.length_cons, List.length_nil, List.replicate_succ, List.replicate_zero, Nat.reduceAdd, Nat.reduceSub]
      repeat' (first
        | dsimp only [putD, DV.cells, DH.new_next, DH.set_next, List.length_cons, List.length_nil, Nat.reduceAdd, List.set_cons_zero, List.set_cons_succ, getD_zero, getD_succ, fieldAt_zero, fieldAt_succ, thenD, blockD, retR]
        | (refine ⟨_, resOf_cct (loadD_at rfl (by repeat (first | with_reducible assumption | (with_reducible apply obj_here; with_reducible rfl) | with_reducible apply obj_set | (with_reducible apply obj_skip_lo; (· ((repeat (first | with_reducible assumption | with_reducible apply Lo.self | with_reducible apply Lo.new | with_reducible apply Lo.set | with_reducible apply Lo.self1 | with_reducible apply Lo.self2)); done))) | (with_reducible apply obj_past; (· ((first | with_reducible assumption | with_reducible apply ne_add1 | with_reducible apply ne_add1' | with_reducible apply ne_add2 | with_reducible apply ne_add2' | with_reducible apply ne_add12 | with_reducible apply ne_add21 | (with_reducible apply Lo.ne; (repeat (first | with_reducible assumption | with_reducible apply Lo.self | with_reducible apply Lo.new | with_reducible apply Lo.set | with_reducible apply Lo.self1 | with_reducible apply Lo.self2)); done) | (with_reducible apply Lo.ne1; (repeat (first | with_reducible assumption | with_reducible apply Lo.self | with_reducible apply Lo.new | with_reducible apply Lo.set | with_reducible apply Lo.self1 | with_reducible apply Lo.self2)); done) | (with_reducible apply Lo.ne'; (repeat (first | with_reducible assumption | with_reducible apply Lo.self | with_reducible apply Lo.new | with_reducible apply Lo.set | with_reducible apply Lo.self1 | with_reducible apply Lo.self2)); done) | (with_reducible apply Lo.ne1'; (repeat (first | with_reducible assumption | with_reducible apply Lo.self | with_reducible apply Lo.new | with_reducible apply Lo.set | with_reducible apply Lo.self1 | with_reducible apply Lo.self2)); done)); done))) | exact obj_here rfl)) rfl rfl) (loadD_at rfl (by repeat (first | with_reducible assumption | (with_reducible apply obj_here; with_reducible rfl) | with_reducible apply obj_set | (with_reducible apply obj_skip_lo; (· ((repeat (first | with_reducible assumption | with_reducible apply Lo.self | with_reducible apply Lo.new | with_reducible apply Lo.set | with_reducible apply Lo.self1 | with_reducible apply Lo.self2)); done))) | (with_reducible apply obj_past; (· ((first | with_reducible assumption | with_reducible apply ne_add1 | with_reducible apply ne_add1' | with_reducible apply ne_add2 | with_reducible apply ne_add2' | with_reducible apply ne_add12 | with_reducible apply ne_add21 | (with_reducible apply Lo.ne; (repeat (first | with_reducible assumption | with_reducible apply Lo.self | with_reducible apply Lo.new | with_reducible apply Lo.set | with_reducible apply Lo.self1 | with_reducible apply Lo.self2)); done) | (with_reducible apply Lo.ne1; (repeat (first | with_reducible assumption | with_reducible apply Lo.self | with_reducible apply Lo.new | with_reducible apply Lo.set | with_reducible apply Lo.self1 | with_reducible apply Lo.self2)); done) | (with_reducible apply Lo.ne'; (repeat (first | with_reducible assumption | with_reducible apply Lo.self | with_reducible apply Lo.new | with_reducible apply Lo.set | with_reducible apply Lo.self1 | with_reducible apply Lo.self2)); done) | (with_reducible apply Lo.ne1'; (repeat (first | with_reducible assumption | with_reducible apply Lo.self | with_reducible apply Lo.new | with_reducible apply Lo.set | with_reducible apply Lo.self1 | with_reducible apply Lo.self2)); done)); done))) | exact obj_here rfl)) rfl rfl), ?_⟩)
        | apply dwp_seq
        | apply dwp_region
        | apply ops_nil
        | (apply ops_plain; (· exact rfl))
        | (apply op_call; (· exact rfl); (· exact rfl); (· exact rfl); refine call_table (g := gPeek) rfl (peek_t (⟨_, _, _, rfl, hl.mono hab4⟩ : Its _ (.sl p l.length c ex) l)) ?_; rw [hE, hX])
        | (apply op_call; (· exact rfl); (· exact rfl); (· exact rfl); refine (copy36 _ p c ex l nx now hor (hl.mono s3_above) hn).mono ?_; rintro r H1 ⟨ab1, s1, rfl, p1, c1, e1, rfl, it1, if1⟩; have i1 : ItsF _ H1 (.sl p1 l.length c1 e1) l := ⟨p1, c1, e1, rfl, it1, if1⟩; have F := AfterE.of ab1; have aa1 := F.aa; have ho0 := F.o0; have ho1 := F.o1; have ho2 := F.o2; have lt1 := F.lt; have hl0 : Lo H1 H.next := lo (by omega); have hl1 : Lo H1 (H.next + 1) := lo (by omega); have hl2 : Lo H1 (H.next + 1 + 1) := lo lt1; have hab4 : ∀ {o o'}, Above H ((H1.new o).set H1.next o') := fun {o o'} => aa1.trans aboveQ; have n12 : H.next + 1 ≠ H.next + 1 + 1 := (by omega); have n21 : H.next + 1 + 1 ≠ H.next + 1 := (by omega); have m1 : H1.next ≠ H.next + 1 := (by omega); have m2 : H1.next ≠ H.next + 1 + 1 := (by omega); have m3 : H1.next + 1 ≠ H.next + 1 := (by omega); have m4 : H1.next + 1 ≠ H.next + 1 + 1 := (by omega))
        | (apply op_store_at; (· exact rfl); (· exact rfl); (· exact rfl); (· exact obj_here rfl); (· exact rfl); (· exact rfl); (· exact rfl))
        | (apply op_load_at; (· exact rfl); (· exact rfl); (· repeat (first | with_reducible assumption | (with_reducible apply obj_here; with_reducible rfl) | with_reducible apply obj_set | (with_reducible apply obj_skip_lo; (· ((repeat (first | with_reducible assumption | with_reducible apply Lo.self | with_reducible apply Lo.new | with_reducible apply Lo.set | with_reducible apply Lo.self1 | with_reducible apply Lo.self2)); done))) | (with_reducible apply obj_past; (· ((first | with_reducible assumption | with_reducible apply ne_add1 | with_reducible apply ne_add1' | with_reducible apply ne_add2 | with_reducible apply ne_add2' | with_reducible apply ne_add12 | with_reducible apply ne_add21 | (with_reducible apply Lo.ne; (repeat (first | with_reducible assumption | with_reducible apply Lo.self | with_reducible apply Lo.new | with_reducible apply Lo.set | with_reducible apply Lo.self1 | with_reducible apply Lo.self2)); done) | (with_reducible apply Lo.ne1; (repeat (first | with_reducible assumption | with_reducible apply Lo.self | with_reducible apply Lo.new | with_reducible apply Lo.set | with_reducible apply Lo.self1 | with_reducible apply Lo.self2)); done) | (with_reducible apply Lo.ne'; (repeat (first | with_reducible assumption | with_reducible apply Lo.self | with_reducible apply Lo.new | with_reducible apply Lo.set | with_reducible apply Lo.self1 | with_reducible apply Lo.self2)); done) | (with_reducible apply Lo.ne1'; (repeat (first | with_reducible assumption | with_reducible apply Lo.self | with_reducible apply Lo.new | with_reducible apply Lo.set | with_reducible apply Lo.self1 | with_reducible apply Lo.self2)); done)); done))) | exact obj_here rfl)); (· exact rfl); (· exact rfl))
        | (apply op_store_at; (· exact rfl); (· exact rfl); (· exact rfl); (· repeat (first | with_reducible assumption | (with_reducible apply obj_here; with_reducible rfl) | with_reducible apply obj_set | (with_reducible apply obj_skip_lo; (· ((repeat (first | with_reducible assumption | with_reducible apply Lo.self | with_reducible apply Lo.new | with_reducible apply Lo.set | with_reducible apply Lo.self1 | with_reducible apply Lo.self2)); done))) | (with_reducible apply obj_past; (· ((first | with_reducible assumption | with_reducible apply ne_add1 | with_reducible apply ne_add1' | with_reducible apply ne_add2 | with_reducible apply ne_add2' | with_reducible apply ne_add12 | with_reducible apply ne_add21 | (with_reducible apply Lo.ne; (repeat (first | with_reducible assumption | with_reducible apply Lo.self | with_reducible apply Lo.new | with_reducible apply Lo.set | with_reducible apply Lo.self1 | with_reducible apply Lo.self2)); done) | (with_reducible apply Lo.ne1; (repeat (first | with_reducible assumption | with_reducible apply Lo.self | with_reducible apply Lo.new | with_reducible apply Lo.set | with_reducible apply Lo.self1 | with_reducible apply Lo.self2)); done) | (with_reducible apply Lo.ne'; (repeat (first | with_reducible assumption | with_reducible apply Lo.self | with_reducible apply Lo.new | with_reducible apply Lo.set | with_reducible apply Lo.self1 | with_reducible apply Lo.self2)); done) | (with_reducible apply Lo.ne1'; (repeat (first | with_reducible assumption | with_reducible apply Lo.self | with_reducible apply Lo.new | with_reducible apply Lo.set | with_reducible apply Lo.self1 | with_reducible apply Lo.self2)); done)); done))) | exact obj_here rfl)); (· exact rfl); (· exact rfl); (· exact rfl))
        | (apply op_at; (· exact rfl))
        | (apply dwp_cond_t; (· exact rfl); (· (first | with_reducible assumption | with_reducible rfl | decide)))
        | (apply dwp_cond_f; (· exact rfl); (· (first | with_reducible assumption | with_reducible rfl | decide)))
        | apply dwp_skip
        | apply dwp_ret
        | fail)
      exact step_bad (by unfold stepE; rw [if_pos hE, if_pos hg]) (by decide) ((Above.set ((hab4.new _).set (show H.next ≤ H1.next + 1 by omega) _) (Nat.le_succ _) _).set (show H.next ≤ H.next + 1 + 1 by omega) _) ((((i1.mono ((aboveQ.new _).set (Nat.le_succ _) _)).set (show H.next + 1 < H.next + 1 + 1 + 1 by omega)).set (show H.next + 1 + 1 < H.next + 1 + 1 + 1 by omega)).older (show H.next ≤ H.next + 1 + 1 + 1 by omega))
    | false =>
      have hx0 : (sortL l)[0]? = some (g (sortL l) 0) := g_at (by omega)
      have hin1 : 0 ≤ (1 : Int) ∧ (1 : Int) ≤ ((sortL l).length : Int) := by omega
      have slv : ∀ (loc i0 c6 : Nat) (e6 : Bool), DV.sl (some (loc, i0 + (1 : Int).toNat, 6)) ((sortL l).length - (1 : Int).toNat) (c6 - (1 : Int).toNat) e6 = .sl (some (loc, i0 + 1, 6)) ((sortL l).drop 1).length (c6 - 1) e6 := fun loc i0 c6 e6 => by rw [List.length_drop]; rfl
      refine enter rfl Try.func43 rfl Try.ntmps43 rfl ?_
      dsimp only [List.cons_append, List.nil_append, List.length_cons, List.length_nil, List.replicate_succ, List.replicate_zero, Nat.reduceAdd, Nat.reduceSub]
      repeat' (first
        | dsimp only [putD, DV.cells, DH.new_next, DH.set_next, List.length_cons, List.length_nil, Nat.reduceAdd, List.set_cons_zero, List.set_cons_succ, getD_zero, getD_succ, fieldAt_zero, fieldAt_succ, thenD, blockD, retR]
        | (refine ⟨_, resOf_cct (loadD_at rfl (by repeat (first | with_reducible assumption | (with_reducible apply obj_here; with_reducible rfl) | with_reducible apply obj_set | (with_reducible apply obj_skip_lo; (· ((repeat (first | with_reducible assumption | with_reducible apply Lo.self | with_reducible apply Lo.new | with_reducible apply Lo.set | with_reducible apply Lo.self1 | with_reducible apply Lo.self2)); done))) | (with_reducible apply obj_past; (· ((first | with_reducible assumption | with_reducible apply ne_add1 | with_reducible apply ne_add1' | with_reducible apply ne_add2 | with_reducible apply ne_add2' | with_reducible apply ne_add12 | with_reducible apply ne_add21 | (with_reducible apply Lo.ne; (repeat (first | with_reducible assumption | with_reducible apply Lo.self | with_reducible apply Lo.new | with_reducible apply Lo.set | with_reducible apply Lo.self1 | with_reducible apply Lo.self2)); done) | (with_reducible apply Lo.ne1; (repeat (first | with_reducible assumption | with_reducible apply Lo.self | with_reducible apply Lo.new | with_reducible apply Lo.set | with_reducible apply Lo.self1 | with_reducible apply Lo.self2)); done) | (with_reducible apply Lo.ne'; (repeat (first | with_reducible assumption | with_reducible apply Lo.self | with_reducible apply Lo.new | with_reducible apply Lo.set | with_reducible apply Lo.self1 | with_reducible apply Lo.self2)); done) | (with_reducible apply Lo.ne1'; (repeat (first | with_reducible assumption | with_reducible apply Lo.self | with_reducible apply Lo.new | with_reducible apply Lo.set | with_reducible apply Lo.self1 | with_reducible apply Lo.self2)); done)); done))) | exact obj_here rfl)) rfl rfl) (loadD_at rfl (by repeat (first | with_reducible assumption | (with_reducible apply obj_here; with_reducible rfl) | with_reducible apply obj_set | (with_reducible apply obj_skip_lo; (· ((repeat (first | with_reducible assumption | with_reducible apply Lo.self | with_reducible apply Lo.new | with_reducible apply Lo.set | with_reducible apply Lo.self1 | with_reducible apply Lo.self2)); done))) | (with_reducible apply obj_past; (· ((first | with_reducible assumption | with_reducible apply ne_add1 | with_reducible apply ne_add1' | with_reducible apply ne_add2 | with_reducible apply ne_add2' | with_reducible apply ne_add12 | with_reducible apply ne_add21 | (with_reducible apply Lo.ne; (repeat (first | with_reducible assumption | with_reducible apply Lo.self | with_reducible apply Lo.new | with_reducible apply Lo.set | with_reducible apply Lo.self1 | with_reducible apply Lo.self2)); done) | (with_reducible apply Lo.ne1; (repeat (first | with_reducible assumption | with_reducible apply Lo.self | with_reducible apply Lo.new | with_reducible apply Lo.set | with_reducible apply Lo.self1 | with_reducible apply Lo.self2)); done) | (with_reducible apply Lo.ne'; (repeat (first | with_reducible assumption | with_reducible apply Lo.self | with_reducible apply Lo.new | with_reducible apply Lo.set | with_reducible apply Lo.self1 | with_reducible apply Lo.self2)); done) | (with_reducible apply Lo.ne1'; (repeat (first | with_reducible assumption | with_reducible apply Lo.self | with_reducible apply Lo.new | with_reducible apply Lo.set | with_reducible apply Lo.self1 | with_reducible apply Lo.self2)); done)); done))) | exact obj_here rfl)) rfl rfl), ?_⟩)
        | (apply drawp_read; (· (first | exact wanted_plain rfl | (apply wanted_on; (· exact rfl); (· exact rfl); (· (first | with_reducible assumption | with_reducible rfl | decide))))); (· exact rfl); (· exact rfl); (· decide +kernel); (· intro H' h; have h : _ ∧ _ := h; exact opD_load rfl rfl (h.1.trans (by repeat (first | with_reducible assumption | (with_reducible apply obj_here; with_reducible rfl) | with_reducible apply obj_set | (with_reducible apply obj_skip_lo; (· ((repeat (first | with_reducible assumption | with_reducible apply Lo.self | with_reducible apply Lo.new | with_reducible apply Lo.set | with_reducible apply Lo.self1 | with_reducible apply Lo.self2)); done))) | (with_reducible apply obj_past; (· ((first | with_reducible assumption | with_reducible apply ne_add1 | with_reducible apply ne_add1' | with_reducible apply ne_add2 | with_reducible apply ne_add2' | with_reducible apply ne_add12 | with_reducible apply ne_add21 | (with_reducible apply Lo.ne; (repeat (first | with_reducible assumption | with_reducible apply Lo.self | with_reducible apply Lo.new | with_reducible apply Lo.set | with_reducible apply Lo.self1 | with_reducible apply Lo.self2)); done) | (with_reducible apply Lo.ne1; (repeat (first | with_reducible assumption | with_reducible apply Lo.self | with_reducible apply Lo.new | with_reducible apply Lo.set | with_reducible apply Lo.self1 | with_reducible apply Lo.self2)); done) | (with_reducible apply Lo.ne'; (repeat (first | with_reducible assumption | with_reducible apply Lo.self | with_reducible apply Lo.new | with_reducible apply Lo.set | with_reducible apply Lo.self1 | with_reducible apply Lo.self2)); done) | (with_reducible apply Lo.ne1'; (repeat (first | with_reducible assumption | with_reducible apply Lo.self | with_reducible apply Lo.new | with_reducible apply Lo.set | with_reducible apply Lo.self1 | with_reducible apply Lo.self2)); done)); done))) | exact obj_here rfl))) rfl rfl))
        | (apply drawp_read; (· (first | exact wanted_plain rfl | (apply wanted_on; (· exact rfl); (· exact rfl); (· (first | with_reducible assumption | with_reducible rfl | decide))))); (· exact rfl); (· exact rfl); (· decide +kernel); (· intro H' h; have h : _ ∧ _ := h; exact opD_load rfl rfl (h.2.trans (by repeat (first | with_reducible assumption | (with_reducible apply obj_here; with_reducible rfl) | with_reducible apply obj_set | (with_reducible apply obj_skip_lo; (· ((repeat (first | with_reducible assumption | with_reducible apply Lo.self | with_reducible apply Lo.new | with_reducible apply Lo.set | with_reducible apply Lo.self1 | with_reducible apply Lo.self2)); done))) | (with_reducible apply obj_past; (· ((first | with_reducible assumption | with_reducible apply ne_add1 | with_reducible apply ne_add1' | with_reducible apply ne_add2 | with_reducible apply ne_add2' | with_reducible apply ne_add12 | with_reducible apply ne_add21 | (with_reducible apply Lo.ne; (repeat (first | with_reducible assumption | with_reducible apply Lo.self | with_reducible apply Lo.new | with_reducible apply Lo.set | with_reducible apply Lo.self1 | with_reducible apply Lo.self2)); done) | (with_reducible apply Lo.ne1; (repeat (first | with_reducible assumption | with_reducible apply Lo.self | with_reducible apply Lo.new | with_reducible apply Lo.set | with_reducible apply Lo.self1 | with_reducible apply Lo.self2)); done) | (with_reducible apply Lo.ne'; (repeat (first | with_reducible assumption | with_reducible apply Lo.self | with_reducible apply Lo.new | with_reducible apply Lo.set | with_reducible apply Lo.self1 | with_reducible apply Lo.self2)); done) | (with_reducible apply Lo.ne1'; (repeat (first | with_reducible assumption | with_reducible apply Lo.self | with_reducible apply Lo.new | with_reducible apply Lo.set | with_reducible apply Lo.self1 | with_reducible apply Lo.self2)); done)); done))) | exact obj_here rfl))) rfl rfl))
        | (apply drawp_move; (· (first | exact wanted_plain rfl | (apply wanted_on; (· exact rfl); (· exact rfl); (· (first | with_reducible assumption | with_reducible rfl | decide))))); (· exact rfl); (· decide +kernel); apply op_store_at; (· exact rfl); (· exact rfl); (· exact rfl); (· repeat (first | with_reducible assumption | (with_reducible apply obj_here; with_reducible rfl) | with_reducible apply obj_set | (with_reducible apply obj_skip_lo; (· ((repeat (first | with_reducible assumption | with_reducible apply Lo.self | with_reducible apply Lo.new | with_reducible apply Lo.set | with_reducible apply Lo.self1 | with_reducible apply Lo.self2)); done))) | (with_reducible apply obj_past; (· ((first | with_reducible assumption | with_reducible apply ne_add1 | with_reducible apply ne_add1' | with_reducible apply ne_add2 | with_reducible apply ne_add2' | with_reducible apply ne_add12 | with_reducible apply ne_add21 | (with_reducible apply Lo.ne; (repeat (first | with_reducible assumption | with_reducible apply Lo.self | with_reducible apply Lo.new | with_reducible apply Lo.set | with_reducible apply Lo.self1 | with_reducible apply Lo.self2)); done) | (with_reducible apply Lo.ne1; (repeat (first | with_reducible assumption | with_reducible apply Lo.self | with_reducible apply Lo.new | with_reducible apply Lo.set | with_reducible apply Lo.self1 | with_reducible apply Lo.self2)); done) | (with_reducible apply Lo.ne'; (repeat (first | with_reducible assumption | with_reducible apply Lo.self | with_reducible apply Lo.new | with_reducible apply Lo.set | with_reducible apply Lo.self1 | with_reducible apply Lo.self2)); done) | (with_reducible apply Lo.ne1'; (repeat (first | with_reducible assumption | with_reducible apply Lo.self | with_reducible apply Lo.new | with_reducible apply Lo.set | with_reducible apply Lo.self1 | with_reducible apply Lo.self2)); done)); done))) | exact obj_here rfl)); (· exact rfl); (· exact rfl); (· exact rfl); refine ⟨⟨set_other m1, set_other m3⟩, ?_⟩)
        | apply dwp_seq
        | apply dwp_region
        | apply ops_nil
        | (apply ops_plain; (· exact rfl))
        | (apply op_call; (· exact rfl); (· exact rfl); (· exact rfl); refine call_table (g := gPeek) rfl (peek_t (⟨_, _, _, rfl, hl.mono hab4⟩ : Its _ (.sl p l.length c ex) l)) ?_; rw [hE, hX])
        | (apply op_call; (· exact rfl); (· exact rfl); (· exact rfl); refine (copy36 _ p c ex l nx now hor (hl.mono s3_above) hn).mono ?_; rintro r H1 ⟨ab1, s1, rfl, p1, c1, e1, rfl, it1, if1⟩; have i1 : ItsF _ H1 (.sl p1 l.length c1 e1) l := ⟨p1, c1, e1, rfl, it1, if1⟩; have F := AfterE.of ab1; have aa1 := F.aa; have ho0 := F.o0; have ho1 := F.o1; have ho2 := F.o2; have lt1 := F.lt; have hl0 : Lo H1 H.next := lo (by omega); have hl1 : Lo H1 (H.next + 1) := lo (by omega); have hl2 : Lo H1 (H.next + 1 + 1) := lo lt1; have hab4 : ∀ {o o'}, Above H ((H1.new o).set H1.next o') := fun {o o'} => aa1.trans aboveQ; have n12 : H.next + 1 ≠ H.next + 1 + 1 := (by omega); have n21 : H.next + 1 + 1 ≠ H.next + 1 := (by omega); have m1 : H1.next ≠ H.next + 1 := (by omega); have m2 : H1.next ≠ H.next + 1 + 1 := (by omega); have m3 : H1.next + 1 ≠ H.next + 1 := (by omega); have m4 : H1.next + 1 ≠ H.next + 1 + 1 := (by omega))
        | (apply op_call; (· exact rfl); (· exact rfl); (· exact rfl); refine (CallWp.up upK5 (sorted_c (⟨_, _, _, rfl, hl.mono ((hab4.new _).set (Nat.le_trans aa1.le (Nat.le_succ _)) _)⟩ : Its _ (.sl p l.length c ex) l) hn)).mono ?_; rintro r H6 ⟨ab6, p6, c6, e6, rfl, it6, if6⟩; have G := AfterF.of F ab6; have hoc := G.oc _ rfl; have hod := G.od _ rfl; have hp1 := G.o1; have hp2 := G.o2; obtain ⟨loc, i0, ro, rs, hp6, hloc, ho6, hr6⟩ := it6.rd hx0; subst hp6; have hsv := slv loc i0 c6 e6; have w1 : H1.next ≠ H1.next + 1 := (by omega); have w2 : H1.next + 1 ≠ H1.next := (by omega); have w3 : H.next + 1 ≠ H1.next := (by omega); have w4 : H.next + 1 + 1 ≠ H1.next := (by omega))
        | (apply op_store_at; (· exact rfl); (· exact rfl); (· exact rfl); (· exact obj_here rfl); (· exact rfl); (· exact rfl); (· exact rfl))
        | (apply op_told; (· exact opD_slice_lo rfl rfl rfl rfl rfl hin1); (· exact hsv))
        | (apply op_load_at; (· exact rfl); (· exact rfl); (· repeat (first | with_reducible assumption | (with_reducible apply obj_here; with_reducible rfl) | with_reducible apply obj_set | (with_reducible apply obj_skip_lo; (· ((repeat (first | with_reducible assumption | with_reducible apply Lo.self | with_reducible apply Lo.new | with_reducible apply Lo.set | with_reducible apply Lo.self1 | with_reducible apply Lo.self2)); done))) | (with_reducible apply obj_past; (· ((first | with_reducible assumption | with_reducible apply ne_add1 | with_reducible apply ne_add1' | with_reducible apply ne_add2 | with_reducible apply ne_add2' | with_reducible apply ne_add12 | with_reducible apply ne_add21 | (with_reducible apply Lo.ne; (repeat (first | with_reducible assumption | with_reducible apply Lo.self | with_reducible apply Lo.new | with_reducible apply Lo.set | with_reducible apply Lo.self1 | with_reducible apply Lo.self2)); done) | (with_reducible apply Lo.ne1; (repeat (first | with_reducible assumption | with_reducible apply Lo.self | with_reducible apply Lo.new | with_reducible apply Lo.set | with_reducible apply Lo.self1 | with_reducible apply Lo.self2)); done) | (with_reducible apply Lo.ne'; (repeat (first | with_reducible assumption | with_reducible apply Lo.self | with_reducible apply Lo.new | with_reducible apply Lo.set | with_reducible apply Lo.self1 | with_reducible apply Lo.self2)); done) | (with_reducible apply Lo.ne1'; (repeat (first | with_reducible assumption | with_reducible apply Lo.self | with_reducible apply Lo.new | with_reducible apply Lo.set | with_reducible apply Lo.self1 | with_reducible apply Lo.self2)); done)); done))) | exact obj_here rfl)); (· exact rfl); (· exact rfl))
        | (apply op_store_at; (· exact rfl); (· exact rfl); (· exact rfl); (· repeat (first | with_reducible assumption | (with_reducible apply obj_here; with_reducible rfl) | with_reducible apply obj_set | (with_reducible apply obj_skip_lo; (· ((repeat (first | with_reducible assumption | with_reducible apply Lo.self | with_reducible apply Lo.new | with_reducible apply Lo.set | with_reducible apply Lo.self1 | with_reducible apply Lo.self2)); done))) | (with_reducible apply obj_past; (· ((first | with_reducible assumption | with_reducible apply ne_add1 | with_reducible apply ne_add1' | with_reducible apply ne_add2 | with_reducible apply ne_add2' | with_reducible apply ne_add12 | with_reducible apply ne_add21 | (with_reducible apply Lo.ne; (repeat (first | with_reducible assumption | with_reducible apply Lo.self | with_reducible apply Lo.new | with_reducible apply Lo.set | with_reducible apply Lo.self1 | with_reducible apply Lo.self2)); done) | (with_reducible apply Lo.ne1; (repeat (first | with_reducible assumption | with_reducible apply Lo.self | with_reducible apply Lo.new | with_reducible apply Lo.set | with_reducible apply Lo.self1 | with_reducible apply Lo.self2)); done) | (with_reducible apply Lo.ne'; (repeat (first | with_reducible assumption | with_reducible apply Lo.self | with_reducible apply Lo.new | with_reducible apply Lo.set | with_reducible apply Lo.self1 | with_reducible apply Lo.self2)); done) | (with_reducible apply Lo.ne1'; (repeat (first | with_reducible assumption | with_reducible apply Lo.self | with_reducible apply Lo.new | with_reducible apply Lo.set | with_reducible apply Lo.self1 | with_reducible apply Lo.self2)); done)); done))) | exact obj_here rfl)); (· exact rfl); (· exact rfl); (· exact rfl))
        | (apply op_at; (· exact rfl))
        | refine dwp_drawp (id := 9) _ rfl (fun H' => H'.obj H1.next = DH.obj _ H1.next ∧ H'.obj (H1.next + 1) = DH.obj _ (H1.next + 1)) ⟨rfl, rfl⟩ ?_
        | apply drawp_nil
        | apply tand
        | (apply drawp_pure; (· (first | exact wanted_plain rfl | (apply wanted_on; (· exact rfl); (· exact rfl); (· (first | with_reducible assumption | with_reducible rfl | decide))))); (· exact rfl); (· exact rfl); (· exact rfl))
        | (apply drawp_sync_st (fun _ => True); (· exact rfl); (· (first | exact wanted_plain rfl | (apply wanted_on; (· exact rfl); (· exact rfl); (· (first | with_reducible assumption | with_reducible rfl | decide))))); (· decide +kernel))
        | (apply dwp_cond_f; (· exact rfl); (· (first | with_reducible assumption | with_reducible rfl | decide)))
        | apply dwp_skip
        | apply dwp_ret
        | fail)
      have iF : ItsF ((((H1.new _).set H1.next _).new _).set (H1.next + 1) _) H6 (.sl (some (loc, i0 + 1, 6)) ((sortL l).drop 1).length (c6 - 1) e6) ((sortL l).drop 1) := ⟨_, _, _, rfl, it6.dropI (k := 1) (by omega), fun l' i' z' e => by cases e; exact if6 loc i0 6 rfl⟩
      have k0 : H1.next < H1.next + 1 + 1 := by omega
      have k1 : H.next + 1 < H1.next + 1 + 1 := by omega
      have k2 : H.next + 1 + 1 < H1.next + 1 + 1 := by omega
      have k3 : H.next ≤ H1.next + 1 + 1 := by omega
      exact step_good (by unfold stepE; rw [if_pos hE, hg]; rfl) ((((G.aa.set aa1.le _).set aa1.le _).set (Nat.le_succ _) _).set (Nat.le_trans (Nat.le_succ _) (Nat.le_succ _)) _) (((((iF.set k0).set k0).set k1).set k2).older k3)
  · have hX : peekX l nx now hor = zeroI := by unfold peekX; rw [hE]; rfl
    refine enter rfl Try.func43 rfl Try.ntmps43 rfl ?_
    dsimp only [List.cons_append, List.nil_append, List.length_cons, List.length_nil, List.replicate_succ, List.replicate_zero, Nat.reduceAdd, Nat.reduceSub]
    repeat' (first
      | dsimp only [putD, DV.cells, DH.new_next, DH.set_next, List.length_cons, List.length_nil, Nat.reduceAdd, List.set_cons_zero, List.set_cons_succ, getD_zero, getD_succ, fieldAt_zero, fieldAt_succ, thenD, blockD, retR]
      | (refine ⟨_, resOf_cct (loadD_at rfl (by repeat (first | with_reducible assumption | (with_reducible apply obj_here; with_reducible rfl) | with_reducible apply obj_set | (with_reducible apply obj_skip_lo; (· ((repeat (first | with_reducible assumption | with_reducible apply Lo.self | with_reducible apply Lo.new | with_reducible apply Lo.set | with_reducible apply Lo.self1 | with_reducible apply Lo.self2)); done))) | (with_reducible apply obj_past; (· ((first | with_reducible assumption | with_reducible apply ne_add1 | with_reducible apply ne_add1' | with_reducible apply ne_add2 | with_reducible apply ne_add2' | with_reducible apply ne_add12 | with_reducible apply ne_add21 | (with_reducible apply Lo.ne; (repeat (first | with_reducible assumption | with_reducible apply Lo.self | with_reducible apply Lo.new | with_reducible apply Lo.set | with_reducible apply Lo.self1 | with_reducible apply Lo.self2)); done) | (with_reducible apply Lo.ne1; (repeat (first | with_reducible assumption | with_reducible apply Lo.self | with_reducible apply Lo.new | with_reducible apply Lo.set | with_reducible apply Lo.self1 | with_reducible apply Lo.self2)); done) | (with_reducible apply Lo.ne'; (repeat (first | with_reducible assumption | with_reducible apply Lo.self | with_reducible apply Lo.new | with_reducible apply Lo.set | with_reducible apply Lo.self1 | with_reducible apply Lo.self2)); done) | (with_reducible apply Lo.ne1'; (repeat (first | with_reducible assumption | with_reducible apply Lo.self | with_reducible apply Lo.new | with_reducible apply Lo.set | with_reducible apply Lo.self1 | with_reducible apply Lo.self2)); done)); done))) | exact obj_here rfl)) rfl rfl) (loadD_at rfl (by repeat (first | with_reducible assumption | (with_reducible apply obj_here; with_reducible rfl) | with_reducible apply obj_set | (with_reducible apply obj_skip_lo; (· ((repeat (first | with_reducible assumption | with_reducible apply Lo.self | with_reducible apply Lo.new | with_reducible apply Lo.set | with_reducible apply Lo.self1 | with_reducible apply Lo.self2)); done))) | (with_reducible apply obj_past; (· ((first | with_reducible assumption | with_reducible apply ne_add1 | with_reducible apply ne_add1' | with_reducible apply ne_add2 | with_reducible apply ne_add2' | with_reducible apply ne_add12 | with_reducible apply ne_add21 | (with_reducible apply Lo.ne; (repeat (first | with_reducible assumption | with_reducible apply Lo.self | with_reducible apply Lo.new | with_reducible apply Lo.set | with_reducible apply Lo.self1 | with_reducible apply Lo.self2)); done) | (with_reducible apply Lo.ne1; (repeat (first | with_reducible assumption | with_reducible apply Lo.self | with_reducible apply Lo.new | with_reducible apply Lo.set | with_reducible apply Lo.self1 | with_reducible apply Lo.self2)); done) | (with_reducible apply Lo.ne'; (repeat (first | with_reducible assumption | with_reducible apply Lo.self | with_reducible apply Lo.new | with_reducible apply Lo.set | with_reducible apply Lo.self1 | with_reducible apply Lo.self2)); done) | (with_reducible apply Lo.ne1'; (repeat (first | with_reducible assumption | with_reducible apply Lo.self | with_reducible apply Lo.new | with_reducible apply Lo.set | with_reducible apply Lo.self1 | with_reducible apply Lo.self2)); done)); done))) | exact obj_here rfl)) rfl rfl), ?_⟩)
      | apply dwp_seq
      | apply dwp_region
      | apply ops_nil
      | (apply ops_plain; (· exact rfl))
      | (apply op_call; (· exact rfl); (· exact rfl); (· exact rfl); refine call_table (g := gPeek) rfl (peek_t (⟨_, _, _, rfl, hl.mono hab4⟩ : Its _ (.sl p l.length c ex) l)) ?_; rw [hE, hX])
      | (apply op_call; (· exact rfl); (· exact rfl); (· exact rfl); refine (copy36 _ p c ex l nx now hor (hl.mono s3_above) hn).mono ?_; rintro r H1 ⟨ab1, s1, rfl, p1, c1, e1, rfl, it1, if1⟩; have i1 : ItsF _ H1 (.sl p1 l.length c1 e1) l := ⟨p1, c1, e1, rfl, it1, if1⟩; have F := AfterE.of ab1; have aa1 := F.aa; have ho0 := F.o0; have ho1 := F.o1; have ho2 := F.o2; have lt1 := F.lt; have hl0 : Lo H1 H.next := lo (by omega); have hl1 : Lo H1 (H.next + 1) := lo (by omega); have hl2 : Lo H1 (H.next + 1 + 1) := lo lt1; have hab4 : ∀ {o o'}, Above H ((H1.new o).set H1.next o') := fun {o o'} => aa1.trans aboveQ; have n12 : H.next + 1 ≠ H.next + 1 + 1 := (by omega); have n21 : H.next + 1 + 1 ≠ H.next + 1 := (by omega); have m1 : H1.next ≠ H.next + 1 := (by omega); have m2 : H1.next ≠ H.next + 1 + 1 := (by omega); have m3 : H1.next + 1 ≠ H.next + 1 := (by omega); have m4 : H1.next + 1 ≠ H.next + 1 + 1 := (by omega))
      | (apply op_store_at; (· exact rfl); (· exact rfl); (· exact rfl); (· exact obj_here rfl); (· exact rfl); (· exact rfl); (· exact rfl))
      | (apply op_load_at; (· exact rfl); (· exact rfl); (· repeat (first | with_reducible assumption | (with_reducible apply obj_here; with_reducible rfl) | with_reducible apply obj_set | (with_reducible apply obj_skip_lo; (· ((repeat (first | with_reducible assumption | with_reducible apply Lo.self | with_reducible apply Lo.new | with_reducible apply Lo.set | with_reducible apply Lo.self1 | with_reducible apply Lo.self2)); done))) | (with_reducible apply obj_past; (· ((first | with_reducible assumption | with_reducible apply ne_add1 | with_reducible apply ne_add1' | with_reducible apply ne_add2 | with_reducible apply ne_add2' | with_reducible apply ne_add12 | with_reducible apply ne_add21 | (with_reducible apply Lo.ne; (repeat (first | with_reducible assumption | with_reducible apply Lo.self | with_reducible apply Lo.new | with_reducible apply Lo.set | with_reducible apply Lo.self1 | with_reducible apply Lo.self2)); done) | (with_reducible apply Lo.ne1; (repeat (first | with_reducible assumption | with_reducible apply Lo.self | with_reducible apply Lo.new | with_reducible apply Lo.set | with_reducible apply Lo.self1 | with_reducible apply Lo.self2)); done) | (with_reducible apply Lo.ne'; (repeat (first | with_reducible assumption | with_reducible apply Lo.self | with_reducible apply Lo.new | with_reducible apply Lo.set | with_reducible apply Lo.self1 | with_reducible apply Lo.self2)); done) | (with_reducible apply Lo.ne1'; (repeat (first | with_reducible assumption | with_reducible apply Lo.self | with_reducible apply Lo.new | with_reducible apply Lo.set | with_reducible apply Lo.self1 | with_reducible apply Lo.self2)); done)); done))) | exact obj_here rfl)); (· exact rfl); (· exact rfl))
      | (apply op_store_at; (· exact rfl); (· exact rfl); (· exact rfl); (· repeat (first | with_reducible assumption | (with_reducible apply obj_here; with_reducible rfl) | with_reducible apply obj_set | (with_reducible apply obj_skip_lo; (· ((repeat (first | with_reducible assumption | with_reducible apply Lo.self | with_reducible apply Lo.new | with_reducible apply Lo.set | with_reducible apply Lo.self1 | with_reducible apply Lo.self2)); done))) | (with_reducible apply obj_past; (· ((first | with_reducible assumption | with_reducible apply ne_add1 | with_reducible apply ne_add1' | with_reducible apply ne_add2 | with_reducible apply ne_add2' | with_reducible apply ne_add12 | with_reducible apply ne_add21 | (with_reducible apply Lo.ne; (repeat (first | with_reducible assumption | with_reducible apply Lo.self | with_reducible apply Lo.new | with_reducible apply Lo.set | with_reducible apply Lo.self1 | with_reducible apply Lo.self2)); done) | (with_reducible apply Lo.ne1; (repeat (first | with_reducible assumption | with_reducible apply Lo.self | with_reducible apply Lo.new | with_reducible apply Lo.set | with_reducible apply Lo.self1 | with_reducible apply Lo.self2)); done) | (with_reducible apply Lo.ne'; (repeat (first | with_reducible assumption | with_reducible apply Lo.self | with_reducible apply Lo.new | with_reducible apply Lo.set | with_reducible apply Lo.self1 | with_reducible apply Lo.self2)); done) | (with_reducible apply Lo.ne1'; (repeat (first | with_reducible assumption | with_reducible apply Lo.self | with_reducible apply Lo.new | with_reducible apply Lo.set | with_reducible apply Lo.self1 | with_reducible apply Lo.self2)); done)); done))) | exact obj_here rfl)); (· exact rfl); (· exact rfl); (· exact rfl))
      | (apply op_at; (· exact rfl))
      | (apply dwp_cond_t; (· exact rfl); (· (first | with_reducible assumption | with_reducible rfl | decide)))
      | apply dwp_ret
      | fail)
    exact step_bad (by unfold stepE; rw [if_neg (by rw [hE]; decide)]; exact hE) (by decide) ((Above.set ((hab4.new _).set (show H.next ≤ H1.next + 1 by omega) _) (Nat.le_succ _) _).set (show H.next ≤ H.next + 1 + 1 by omega) _) ((((i1.mono ((aboveQ.new _).set (Nat.le_succ _) _)).set (show H.next + 1 < H.next + 1 + 1 + 1 by omega)).set (show H.next + 1 + 1 < H.next + 1 + 1 + 1 by omega)).older (show H.next ≤ H.next + 1 + 1 + 1 by omega))
  · have hX : peekX l nx now hor = zeroI := by unfold peekX; rw [hE]; rfl
    refine enter rfl Try.func43 rfl Try.ntmps43 rfl ?_
    dsimp only [List.cons_append, List.nil_append, List.length_cons, List.length_nil, List.replicate_succ, List.replicate_zero, Nat.reduceAdd, Nat.reduceSub]
    repeat' (first
      | dsimp only [putD, DV.cells, DH.new_next, DH.set_next, List.length_cons, List.length_nil, Nat.reduceAdd, List.set_cons_zero, List.set_cons_succ, getD_zero, getD_succ, fieldAt_zero, fieldAt_succ, thenD, blockD, retR]
      | (refine ⟨_, resOf_cct (loadD_at rfl (by repeat (first | with_reducible assumption | (with_reducible apply obj_here; with_reducible rfl) | with_reducible apply obj_set | (with_reducible apply obj_skip_lo; (· ((repeat (first | with_reducible assumption | with_reducible apply Lo.self | with_reducible apply Lo.new | with_reducible apply Lo.set | with_reducible apply Lo.self1 | with_reducible apply Lo.self2)); done))) | (with_reducible apply obj_past; (· ((first | with_reducible assumption | with_reducible apply ne_add1 | with_reducible apply ne_add1' | with_reducible apply ne_add2 | with_reducible apply ne_add2' | with_reducible apply ne_add12 | with_reducible apply ne_add21 | (with_reducible apply Lo.ne; (repeat (first | with_reducible assumption | with_reducible apply Lo.self | with_reducible apply Lo.new | with_reducible apply Lo.set | with_reducible apply Lo.self1 | with_reducible apply Lo.self2)); done) | (with_reducible apply Lo.ne1; (repeat (first | with_reducible assumption | with_reducible apply Lo.self | with_reducible apply Lo.new | with_reducible apply Lo.set | with_reducible apply Lo.self1 | with_reducible apply Lo.self2)); done) | (with_reducible apply Lo.ne'; (repeat (first | with_reducible assumption | with_reducible apply Lo.self | with_reducible apply Lo.new | with_reducible apply Lo.set | with_reducible apply Lo.self1 | with_reducible apply Lo.self2)); done) | (with_reducible apply Lo.ne1'; (repeat (first | with_reducible assumption | with_reducible apply Lo.self | with_reducible apply Lo.new | with_reducible apply Lo.set | with_reducible apply Lo.self1 | with_reducible apply Lo.self2)); done)); done))) | exact obj_here rfl)) rfl rfl) (loadD_at rfl (by repeat (first | with_reducible assumption | (with_reducible apply obj_here; with_reducible rfl) | with_reducible apply obj_set | (with_reducible apply obj_skip_lo; (· ((repeat (first | with_reducible assumption | with_reducible apply Lo.self | with_reducible apply Lo.new | with_reducible apply Lo.set | with_reducible apply Lo.self1 | with_reducible apply Lo.self2)); done))) | (with_reducible apply obj_past; (· ((first | with_reducible assumption | with_reducible apply ne_add1 | with_reducible apply ne_add1' | with_reducible apply ne_add2 | with_reducible apply ne_add2' | with_reducible apply ne_add12 | with_reducible apply ne_add21 | (with_reducible apply Lo.ne; (repeat (first | with_reducible assumption | with_reducible apply Lo.self | with_reducible apply Lo.new | with_reducible apply Lo.set | with_reducible apply Lo.self1 | with_reducible apply Lo.self2)); done) | (with_reducible apply Lo.ne1; (repeat (first | with_reducible assumption | with_reducible apply Lo.self | with_reducible apply Lo.new | with_reducible apply Lo.set | with_reducible apply Lo.self1 | with_reducible apply Lo.self2)); done) | (with_reducible apply Lo.ne'; (repeat (first | with_reducible assumption | with_reducible apply Lo.self | with_reducible apply Lo.new | with_reducible apply Lo.set | with_reducible apply Lo.self1 | with_reducible apply Lo.self2)); done) | (with_reducible apply Lo.ne1'; (repeat (first | with_reducible assumption | with_reducible apply Lo.self | with_reducible apply Lo.new | with_reducible apply Lo.set | with_reducible apply Lo.self1 | with_reducible apply Lo.self2)); done)); done))) | exact obj_here rfl)) rfl rfl), ?_⟩)
      | apply dwp_seq
      | apply dwp_region
      | apply ops_nil
      | (apply ops_plain; (· exact rfl))
      | (apply op_call; (· exact rfl); (· exact rfl); (· exact rfl); refine call_table (g := gPeek) rfl (peek_t (⟨_, _, _, rfl, hl.mono hab4⟩ : Its _ (.sl p l.length c ex) l)) ?_; rw [hE, hX])
      | (apply op_call; (· exact rfl); (· exact rfl); (· exact rfl); refine (copy36 _ p c ex l nx now hor (hl.mono s3_above) hn).mono ?_; rintro r H1 ⟨ab1, s1, rfl, p1, c1, e1, rfl, it1, if1⟩; have i1 : ItsF _ H1 (.sl p1 l.length c1 e1) l := ⟨p1, c1, e1, rfl, it1, if1⟩; have F := AfterE.of ab1; have aa1 := F.aa; have ho0 := F.o0; have ho1 := F.o1; have ho2 := F.o2; have lt1 := F.lt; have hl0 : Lo H1 H.next := lo (by omega); have hl1 : Lo H1 (H.next + 1) := lo (by omega); have hl2 : Lo H1 (H.next + 1 + 1) := lo lt1; have hab4 : ∀ {o o'}, Above H ((H1.new o).set H1.next o') := fun {o o'} => aa1.trans aboveQ; have n12 : H.next + 1 ≠ H.next + 1 + 1 := (by omega); have n21 : H.next + 1 + 1 ≠ H.next + 1 := (by omega); have m1 : H1.next ≠ H.next + 1 := (by omega); have m2 : H1.next ≠ H.next + 1 + 1 := (by omega); have m3 : H1.next + 1 ≠ H.next + 1 := (by omega); have m4 : H1.next + 1 ≠ H.next + 1 + 1 := (by omega))
      | (apply op_store_at; (· exact rfl); (· exact rfl); (· exact rfl); (· exact obj_here rfl); (· exact rfl); (· exact rfl); (· exact rfl))
      | (apply op_load_at; (· exact rfl); (· exact rfl); (· repeat (first | with_reducible assumption | (with_reducible apply obj_here; with_reducible rfl) | with_reducible apply obj_set | (with_reducible apply obj_skip_lo; (· ((repeat (first | with_reducible assumption | with_reducible apply Lo.self | with_reducible apply Lo.new | with_reducible apply Lo.set | with_reducible apply Lo.self1 | with_reducible apply Lo.self2)); done))) | (with_reducible apply obj_past; (· ((first | with_reducible assumption | with_reducible apply ne_add1 | with_reducible apply ne_add1' | with_reducible apply ne_add2 | with_reducible apply ne_add2' | with_reducible apply ne_add12 | with_reducible apply ne_add21 | (with_reducible apply Lo.ne; (repeat (first | with_reducible assumption | with_reducible apply Lo.self | with_reducible apply Lo.new | with_reducible apply Lo.set | with_reducible apply Lo.self1 | with_reducible apply Lo.self2)); done) | (with_reducible apply Lo.ne1; (repeat (first | with_reducible assumption | with_reducible apply Lo.self | with_reducible apply Lo.new | with_reducible apply Lo.set | with_reducible apply Lo.self1 | with_reducible apply Lo.self2)); done) | (with_reducible apply Lo.ne'; (repeat (first | with_reducible assumption | with_reducible apply Lo.self | with_reducible apply Lo.new | with_reducible apply Lo.set | with_reducible apply Lo.self1 | with_reducible apply Lo.self2)); done) | (with_reducible apply Lo.ne1'; (repeat (first | with_reducible assumption | with_reducible apply Lo.self | with_reducible apply Lo.new | with_reducible apply Lo.set | with_reducible apply Lo.self1 | with_reducible apply Lo.self2)); done)); done))) | exact obj_here rfl)); (· exact rfl); (· exact rfl))
      | (apply op_store_at; (· exact rfl); (· exact rfl); (· exact rfl); (· repeat (first | with_reducible assumption | (with_reducible apply obj_here; with_reducible rfl) | with_reducible apply obj_set | (with_reducible apply obj_skip_lo; (· ((repeat (first | with_reducible assumption | with_reducible apply Lo.self | with_reducible apply Lo.new | with_reducible apply Lo.set | with_reducible apply Lo.self1 | with_reducible apply Lo.self2)); done))) | (with_reducible apply obj_past; (· ((first | with_reducible assumption | with_reducible apply ne_add1 | with_reducible apply ne_add1' | with_reducible apply ne_add2 | with_reducible apply ne_add2' | with_reducible apply ne_add12 | with_reducible apply ne_add21 | (with_reducible apply Lo.ne; (repeat (first | with_reducible assumption | with_reducible apply Lo.self | with_reducible apply Lo.new | with_reducible apply Lo.set | with_reducible apply Lo.self1 | with_reducible apply Lo.self2)); done) | (with_reducible apply Lo.ne1; (repeat (first | with_reducible assumption | with_reducible apply Lo.self | with_reducible apply Lo.new | with_reducible apply Lo.set | with_reducible apply Lo.self1 | with_reducible apply Lo.self2)); done) | (with_reducible apply Lo.ne'; (repeat (first | with_reducible assumption | with_reducible apply Lo.self | with_reducible apply Lo.new | with_reducible apply Lo.set | with_reducible apply Lo.self1 | with_reducible apply Lo.self2)); done) | (with_reducible apply Lo.ne1'; (repeat (first | with_reducible assumption | with_reducible apply Lo.self | with_reducible apply Lo.new | with_reducible apply Lo.set | with_reducible apply Lo.self1 | with_reducible apply Lo.self2)); done)); done))) | exact obj_here rfl)); (· exact rfl); (· exact rfl); (· exact rfl))
      | (apply op_at; (· exact rfl))
      | (apply dwp_cond_t; (· exact rfl); (· (first | with_reducible assumption | with_reducible rfl | decide)))
      | apply dwp_ret
      | fail)
    exact step_bad (by unfold stepE; rw [if_neg (by rw [hE]; decide)]; exact hE) (by decide) ((Above.set ((hab4.new _).set (show H.next ≤ H1.next + 1 by omega) _) (Nat.le_succ _) _).set (show H.next ≤ H.next + 1 + 1 by omega) _) ((((i1.mono ((aboveQ.new _).set (Nat.le_succ _) _)).set (show H.next + 1 < H.next + 1 + 1 + 1 by omega)).set (show H.next + 1 + 1 < H.next + 1 + 1 + 1 by omega)).older (show H.next ≤ H.next + 1 + 1 + 1 by omega))
end
end Go.Det.Q

/- Arguments. -/
namespace Go.Det.Q
open Go Go.Det Go.Proofs
set_option maxRecDepth 4000
set_option linter.unusedVariables false
set_option linter.unusedSimpArgs false
def i64ok (x : Int) : Prop := -9223372036854775808 ≤ x ∧ x ≤ 9223372036854775807
def u64ok (x : Int) : Prop := 0 ≤ x ∧ x ≤ 18446744073709551615
theorem i64_of {x : Int} (h : (Lit.int .i64 x).wf = true) : i64ok x := by
  simp [Lit.wf, IntKind.min, IntKind.max, IntKind.signed, IntKind.bits] at h
  exact h
theorem u64_of {x : Int} (h : (Lit.int .u64 x).wf = true) : u64ok x := by
  simp [Lit.wf, IntKind.min, IntKind.max, IntKind.signed, IntKind.bits] at h
  unfold u64ok
  omega
structure Item.ok (x : Item) : Prop where
  a : i64ok x.a
  c : i64ok x.c
  s : u64ok x.s
  w : i64ok x.w
  h : i64ok x.h
  n : u64ok x.n
theorem item_in {H : DH} {cs : List DV} (h : Typed Try.prog H 26 cs) : ∃ x : Item, cs = x.cells ∧ x.ok := by
  obtain ⟨h1, h2⟩ := typed_struct (fs := _) Try.underlying26 h
  have hsz : Try.prog.cellsOf 26 = 6 := by kernel_rfl
  have c2 : Try.prog.cellsOf 2 = 1 := by kernel_rfl
  have c3 : Try.prog.cellsOf 3 = 1 := by kernel_rfl
  have c24 : Try.prog.cellsOf 24 = 1 := by kernel_rfl
  rw [hsz] at h1
  obtain ⟨x0, x1, x2, x3, x4, x5, rfl⟩ := len6 h1
  simp only [List.forall_mem_cons, c2, c3, c24, List.drop_zero, List.drop_succ_cons, List.take_succ_cons, List.take_zero] at h2
  obtain ⟨t0, t1, t2, t3, t4, t5, _⟩ := h2
  obtain ⟨a, e0, w0⟩ := typed_int Try.underlying2 t0
  obtain ⟨b, e1, w1⟩ := typed_int Try.underlying3 t1
  obtain ⟨c, e2, w2⟩ := typed_int Try.underlying24 t2
  obtain ⟨d, e3, w3⟩ := typed_int Try.underlying3 t3
  obtain ⟨e, e4, w4⟩ := typed_int Try.underlying3 t4
  obtain ⟨f, e5, w5⟩ := typed_int Try.underlying24 t5
  cases e0; cases e1; cases e2; cases e3; cases e4; cases e5
  exact ⟨⟨a, b, c, d, e, f⟩, rfl, ⟨i64_of w0, i64_of w1, u64_of w2, i64_of w3, i64_of w4, u64_of w5⟩⟩
theorem items_rows {H : DH} : ∀ (rs : List (List DV)), (∀ r ∈ rs, Typed Try.prog H 26 r) → ∃ l : List Item, rs = l.map Item.cells ∧ ∀ x ∈ l, x.ok
  | [], _ => ⟨[], rfl, fun a h => by cases h⟩
  | r :: rs, h => by
    obtain ⟨x, hx, hok⟩ := item_in (h r (by simp))
    obtain ⟨l, hl, hall⟩ := items_rows rs fun r' hr => h r' (by simp [hr])
    exact ⟨x :: l, by rw [hx, hl]; rfl, fun y hy => by
      rcases List.mem_cons.mp hy with rfl | hy
      · exact hok
      · exact hall y hy⟩
theorem items_typed {H : DH} (hw : WF H) {d : DV} (h' : Typed Try.prog H 23 [d]) : ∃ p c ex l, d = .sl p l.length c ex ∧ It H p c ex l ∧ ∀ x ∈ l, x.ok := by
  have hsz : Try.prog.cellsOf 26 = 6 := by kernel_rfl
  rcases typed_slice Try.underlying23 h' with h | ⟨l, n, rs, h, ho, hn, hm, hr⟩
  · cases h
    exact ⟨none, 0, true, [], rfl, .nil0 H, fun a ha => by cases ha⟩
  · rw [hsz] at h ho
    cases h
    obtain ⟨L, hL, hall⟩ := items_rows (rs.take n) (fun r hr' => by
      obtain ⟨i, hi, rfl⟩ := List.getElem_of_mem (List.mem_of_mem_take hr')
      exact hr i _ (List.getElem?_eq_getElem hi))
    have hlen : L.length = n := by
      have := congrArg List.length hL
      rw [List.length_map, List.length_take] at this
      omega
    exact ⟨some (l, 0, 6), rs.length, true, L, by rw [hlen], ⟨.at (hw _ _ ho) ho (by rw [List.length_map, hlen]; omega) (by rw [List.length_map, hlen, List.drop_zero, hL]), fun h => (by cases h), by rw [hlen]; omega, by rw [hlen]; exact hn⟩, hall⟩
theorem int_arg {H : DH} {d : DV} (h : TArg Try.prog H 3 d) : ∃ x, d = .int .i64 x ∧ i64ok x := by
  obtain ⟨x, e, hw⟩ := typed_int Try.underlying3 (targ_one (by rw [Try.underlying3]; simp) (by rw [Try.underlying3]; simp) h)
  cases e; exact ⟨x, rfl, i64_of hw⟩
theorem i64_arg {H : DH} {d : DV} (h : TArg Try.prog H 2 d) : ∃ x, d = .int .i64 x ∧ i64ok x := by
  obtain ⟨x, e, hw⟩ := typed_int Try.underlying2 (targ_one (by rw [Try.underlying2]; simp) (by rw [Try.underlying2]; simp) h)
  cases e; exact ⟨x, rfl, i64_of hw⟩
theorem u64_arg {H : DH} {d : DV} (h : TArg Try.prog H 24 d) : ∃ x, d = .int .u64 x ∧ u64ok x := by
  obtain ⟨x, e, hw⟩ := typed_int Try.underlying24 (targ_one (by rw [Try.underlying24]; simp) (by rw [Try.underlying24]; simp) h)
  cases e; exact ⟨x, rfl, u64_of hw⟩
end Go.Det.Q

/- Kernels: arguments; what both texts come to is alike. -/
namespace Go.Det.Q
open Go Go.Det Go.Proofs
set_option maxRecDepth 4000
set_option maxHeartbeats 8000000
set_option linter.unusedVariables false
set_option linter.unusedSimpArgs false
theorem len4 {cs : List DV} (h : cs.length = 4) : ∃ a b c d, cs = [a, b, c, d] := by
  match cs, h with
  | [a, b, c, d], _ => exact ⟨a, b, c, d, rfl⟩
theorem kern_arg {H : DH} (hw : WF H) {d : DV} (h : TArg Try.prog H 48 d) : ∃ p c ex l nx now hor, d = .agg [.sl p l.length c ex, .int .u64 nx, .int .i64 now, .int .i64 hor] ∧ It H p c ex l ∧ (∀ x ∈ l, x.ok) ∧ u64ok nx ∧ i64ok now ∧ i64ok hor := by
  obtain ⟨cs, rfl, t⟩ := targ_agg Try.underlying48 h
  obtain ⟨h1, h2⟩ := typed_struct (fs := _) Try.underlying48 t
  have hsz : Try.prog.cellsOf 48 = 4 := by kernel_rfl
  have c2 : Try.prog.cellsOf 2 = 1 := by kernel_rfl
  have c23 : Try.prog.cellsOf 23 = 1 := by kernel_rfl
  have c24 : Try.prog.cellsOf 24 = 1 := by kernel_rfl
  rw [hsz] at h1
  obtain ⟨x0, x1, x2, x3, rfl⟩ := len4 h1
  simp only [List.forall_mem_cons, c2, c23, c24, List.drop_zero, List.drop_succ_cons, List.take_succ_cons, List.take_zero] at h2
  obtain ⟨t0, t1, t2, t3, _⟩ := h2
  obtain ⟨p, c, ex, l, rfl, hl, hall⟩ := items_typed hw t0
  obtain ⟨nx, e1, w1⟩ := typed_int Try.underlying24 t1
  obtain ⟨now, e2, w2⟩ := typed_int Try.underlying2 t2
  obtain ⟨hor, e3, w3⟩ := typed_int Try.underlying2 t3
  cases e1; cases e2; cases e3
  exact ⟨p, c, ex, l, nx, now, hor, rfl, hl, hall, u64_of w1, i64_of w2, i64_of w3⟩
theorem sorted_heap {l : List Item} (h : Sorted l) : Heap l := by
  intro i h0 hi
  unfold okAt
  have hj : (i - 1) / 2 < l.length := by omega
  have e1 : g l i = l[i] := g_of (List.getElem?_eq_getElem hi)
  have e2 : g l ((i - 1) / 2) = l[(i - 1) / 2] := g_of (List.getElem?_eq_getElem hj)
  rw [e1, e2]
  exact (List.pairwise_iff_getElem.mp h) _ _ hj hi (by omega)
theorem sorted_check {l : List Item} (h : Sorted l) (hn : l.length ≤ 4096) : checkB l = true := checkB_heap.mpr ⟨sorted_heap h, hn⟩
theorem kfine_of {L1 L2 : List Item} {nx now hor : Int} (h : sortL L1 = sortL L2) (hc : checkB L1 = checkB L2) : kfine L1 nx now hor L2 nx now hor = true := by
  unfold kfine ksame
  rw [h, hc]
  simp
/-! ### Post -/
def pN (l : List Item) (nx now hor a k : Int) : Int := if postE l nx now hor a k = 0 then nx + 1 else nx
def pQ (l : List Item) (nx now hor a k : Int) : Int := if postE l nx now hor a k = 0 then nx else 0
def pL (l good : List Item) (nx now hor a k : Int) : List Item := if postE l nx now hor a k = 0 then good else l
theorem PostS.out {H H' : DH} {l good : List Item} {nx now hor a k : Int} {r : DV} (h : PostS H l good nx now hor a k r H') :
    Above H H' ∧ ∃ s', r = .tuple [.agg [s', .int .u64 (pN l nx now hor a k), .int .i64 now, .int .i64 hor], .int .u64 (pQ l nx now hor a k), .int .i64 (postE l nx now hor a k)] ∧ ItsF H H' s' (pL l good nx now hor a k) := h
theorem post_zero {l : List Item} {nx now hor a k : Int} (h : postE l nx now hor a k = 0) : kOk l nx now hor = true ∧ pushE l = 0 := by
  unfold postE at h
  split at h
  · rename_i hk
    refine ⟨hk, ?_⟩
    split at h
    · cases h
    · split at h
      · cases h
      · split at h
        · cases h
        · exact h
  · cases h
theorem post_fine (l : List Item) (nx now hor a k : Int) (x : Item) (n' : Int) : kfine (pL l (pushV l x) nx now hor a k) n' now hor (pL l (putL (sortL l) x) nx now hor a k) n' now hor = true := by
  unfold pL
  split
  · rename_i h
    obtain ⟨hk, hp⟩ := post_zero h
    have hl := (pushE_zero hp).2
    refine kfine_of (sortL_congr ((pushV_perm hp).trans (((sortL_perm l).symm.cons x).trans (putL_perm _ _).symm))) ?_
    rw [checkB_heap.mpr ⟨pushV_heap hp, by rw [pushV_len hp]; omega⟩, sorted_check (putL_sorted (sortL_sorted l) x) (by rw [(putL_perm _ _).length_eq, List.length_cons, (sortL_perm l).length_eq]; omega)]
  · exact kfine_of rfl rfl
/-! ### Cancel -/
def cL (l good : List Item) (nx now hor q : Int) : List Item := if cancelE l nx now hor q = 0 then good else l
theorem CancelS.out {H H' : DH} {l good : List Item} {nx now hor q : Int} {r : DV} (h : CancelS H l good nx now hor q r H') :
    Above H H' ∧ ∃ s', r = .tuple [.agg [s', .int .u64 nx, .int .i64 now, .int .i64 hor], .int .i64 (cancelE l nx now hor q)] ∧ ItsF H H' s' (cL l good nx now hor q) := h
theorem cancel_zero {l : List Item} {nx now hor q : Int} (h : cancelE l nx now hor q = 0) : takeE l q = 0 := by
  unfold cancelE at h
  split at h
  · exact h
  · cases h
theorem cancel_fine (l : List Item) (nx now hor q : Int) : kfine (cL l (takeV l q) nx now hor q) nx now hor (cL l (rtakeV l q) nx now hor q) nx now hor = true := by
  unfold cL
  split
  · rename_i h
    have ht := cancel_zero h
    obtain ⟨h1, h2, a, h3, h4, h5⟩ := takeE_zero ht
    unfold takeV rtakeV
    rw [if_pos ht, if_pos ht, h3, Int.toNat_natCast]
    have hwl : (withoutL l a).length ≤ 4096 := by rw [withoutL_length (by omega)]; omega
    refine kfine_of (sortL_congr (sortL_perm _).symm) ?_
    rw [checkB_heap.mpr ⟨withoutL_heap h1 h4, hwl⟩, sorted_check (sortL_sorted _) (by rw [(sortL_perm _).length_eq]; exact hwl)]
  · exact kfine_of rfl rfl
/-! ### Step -/
def sW (l : List Item) (nx now hor : Int) : Int := if stepE l nx now hor = 0 then (g l 0).a else now
def sX (l : List Item) (nx now hor : Int) : Item := if stepE l nx now hor = 0 then g l 0 else zeroI
def sL (l good : List Item) (nx now hor : Int) : List Item := if stepE l nx now hor = 0 then good else l
theorem StepS.out {H H' : DH} {l good : List Item} {nx now hor : Int} {r : DV} (h : StepS H l good nx now hor r H') :
    Above H H' ∧ ∃ s', r = .tuple [.agg [s', .int .u64 nx, .int .i64 (sW l nx now hor), .int .i64 hor], .agg (sX l nx now hor).cells, .int .i64 (stepE l nx now hor)] ∧ ItsF H H' s' (sL l good nx now hor) := h
theorem step_zero {l : List Item} {nx now hor : Int} (h : stepE l nx now hor = 0) : popE l = 0 := by
  unfold stepE at h
  split at h
  · rename_i he
    obtain ⟨hk, hne⟩ := peek_ok he
    exact popE_ok (kOk_check hk) hne
  · rename_i he; exact absurd h he
theorem step_fine (l : List Item) (nx now hor w : Int) : kfine (sL l (popV l) nx now hor) nx w hor (sL l ((sortL l).drop 1) nx now hor) nx w hor = true := by
  unfold sL
  split
  · rename_i h
    have hp := step_zero h
    have hi := pop_is l
    rw [Bool.and_eq_true, decide_eq_true_eq] at hi
    have hr : rpopV l = (sortL l).drop 1 := by unfold rpopV; rw [if_pos hp]
    rw [hr] at hi
    have hs : Sorted ((sortL l).drop 1) := (sortL_sorted l).sublist (List.drop_sublist _ _)
    refine kfine_of (by rw [hi.2, sortL_of_sorted hs]) ?_
    have hl := (popE_zero hp).2.1
    rw [hi.1, sorted_check hs (by rw [List.length_drop, (sortL_perm l).length_eq]; omega)]
  · exact kfine_of rfl rfl
end Go.Det.Q

/- Boxes: what a function's variables that live in the heap hold, and what is known of the heap besides. -/
namespace Go.Det
set_option linter.unusedVariables false
set_option linter.unusedSimpArgs false
/-- What hangs on the places S alone. -/
def Stay (S : Nat → Prop) (p : DH → Prop) : Prop := ∀ H H' : DH, H.next ≤ H'.next → (∀ l, S l → H'.obj l = H.obj l) → p H → p H'
structure Fact (H : DH) (bs : List (Nat × DObj)) (f : DH → Prop) : Prop where
  ex : ∃ S, Stay S f ∧ f H ∧ (∀ l, S l → l < H.next) ∧ ∀ b ∈ bs, ¬ S b.1
/-- Behind a heap A there are boxes, and things known that hang on no box. -/
structure Bx (A H : DH) (bs : List (Nat × DObj)) (fs : List (DH → Prop)) : Prop where
  ab : Above A H
  obj : ∀ b ∈ bs, A.next ≤ b.1 ∧ b.1 < H.next ∧ H.obj b.1 = some b.2
  nd : (bs.map (·.1)).Nodup
  fact : ∀ f ∈ fs, Fact H bs f
inductive At (b : Nat) (o : DObj) : List (Nat × DObj) → Prop where
  | here {l} : At b o ((b, o) :: l)
  | there {x l} (h : At b o l) : At b o (x :: l)
theorem At.mem {b : Nat} {o : DObj} {l : List (Nat × DObj)} (h : At b o l) : (b, o) ∈ l := by
  induction h with
  | here => simp
  | there _ ih => simp [ih]
inductive Upd (b : Nat) (o o' : DObj) : List (Nat × DObj) → List (Nat × DObj) → Prop where
  | here {l} : Upd b o o' ((b, o) :: l) ((b, o') :: l)
  | there {x l l'} (h : Upd b o o' l l') : Upd b o o' (x :: l) (x :: l')
theorem Upd.at {b : Nat} {o o' : DObj} {l l' : List (Nat × DObj)} (h : Upd b o o' l l') : At b o l := by
  induction h with
  | here => exact .here
  | there _ ih => exact .there ih
theorem Upd.map {b : Nat} {o o' : DObj} {l l' : List (Nat × DObj)} (h : Upd b o o' l l') : l'.map (·.1) = l.map (·.1) := by
  induction h with
  | here => rfl
  | there _ ih => simp [ih]
theorem Upd.mem {b : Nat} {o o' : DObj} {l l' : List (Nat × DObj)} (h : Upd b o o' l l') (nd : (l.map (·.1)).Nodup) : ∀ x ∈ l', x = (b, o') ∨ (x ∈ l ∧ x.1 ≠ b) := by
  induction h with
  | here =>
    intro x hx
    simp only [List.map_cons, List.nodup_cons, List.mem_map, not_exists, not_and] at nd
    rcases List.mem_cons.mp hx with rfl | hx
    · exact .inl rfl
    · exact .inr ⟨List.mem_cons_of_mem _ hx, nd.1 x hx⟩
  | @there y l l' h ih =>
    intro x hx
    simp only [List.map_cons, List.nodup_cons, List.mem_map, not_exists, not_and] at nd
    rcases List.mem_cons.mp hx with rfl | hx
    · exact .inr ⟨List.mem_cons_self, fun e => nd.1 _ h.at.mem e.symm⟩
    · rcases ih nd.2 x hx with h1 | ⟨h1, h2⟩
      · exact .inl h1
      · exact .inr ⟨List.mem_cons_of_mem _ h1, h2⟩
inductive InF (f : DH → Prop) : List (DH → Prop) → Prop where
  | here {l} : InF f (f :: l)
  | there {x l} (h : InF f l) : InF f (x :: l)
theorem InF.mem {f : DH → Prop} {l : List (DH → Prop)} (h : InF f l) : f ∈ l := by
  induction h with
  | here => simp
  | there _ ih => simp [ih]
section
variable {A H H' : DH} {bs bs' : List (Nat × DObj)} {fs : List (DH → Prop)}
theorem Bx.get (h : Bx A H bs fs) {b : Nat} {o : DObj} (k : At b o bs) : H.obj b = some o := (h.obj _ k.mem).2.2
theorem Bx.has (h : Bx A H bs fs) {f : DH → Prop} (k : InF f fs) : f H := by
  obtain ⟨S, _, h2, _⟩ := (h.fact f k.mem).ex
  exact h2
theorem Bx.init (h : ∀ f ∈ fs, Fact A [] f) : Bx A A [] fs := ⟨Above.refl A, fun b hb => (by cases hb), List.Pairwise.nil, h⟩
theorem Fact.grow {f : DH → Prop} (h : Fact H bs f) (k : Above H H') : Fact H' bs f := by
  obtain ⟨S, h1, h2, h3, h4⟩ := h.ex
  exact ⟨S, h1, h1 H H' k.le (fun l hl => k.same l (h3 l hl)) h2, fun l hl => Nat.lt_of_lt_of_le (h3 l hl) k.le, h4⟩
theorem Bx.grow (h : Bx A H bs fs) (k : Above H H') : Bx A H' bs fs :=
  ⟨h.ab.trans k, fun b hb => ⟨(h.obj b hb).1, Nat.lt_of_lt_of_le (h.obj b hb).2.1 k.le, k.obj (h.obj b hb).2.1 (h.obj b hb).2.2⟩, h.nd, fun f hf => (h.fact f hf).grow k⟩
theorem Bx.box (h : Bx A H bs fs) (o : DObj) : Bx A (H.new o) ((H.next, o) :: bs) fs := by
  have h' := h.grow ((Above.refl H).new o)
  refine ⟨h'.ab, fun b hb => ?_, ?_, fun f hf => ?_⟩
  · rcases List.mem_cons.mp hb with rfl | hb
    · exact ⟨h.ab.le, Nat.lt_succ_self _, obj_here rfl⟩
    · exact h'.obj b hb
  · simp only [List.map_cons, List.nodup_cons, List.mem_map, not_exists, not_and]
    refine ⟨fun x hx e => ?_, h.nd⟩
    have := (h.obj x hx).2.1
    omega
  · obtain ⟨S, h1, h2, h3, h4⟩ := (h.fact f hf).ex
    refine ⟨S, h1, h1 H _ (Nat.le_succ _) (fun l hl => obj_skip (Nat.ne_of_lt (h3 l hl)) rfl) h2, fun l hl => Nat.lt_succ_of_lt (h3 l hl), fun b hb => ?_⟩
    rcases List.mem_cons.mp hb with rfl | hb
    · exact fun hs => Nat.lt_irrefl _ (h3 _ hs)
    · exact h4 b hb
theorem Bx.put (h : Bx A H bs fs) {b : Nat} {o o' : DObj} (k : Upd b o o' bs bs') : Bx A (H.set b (some o')) bs' fs := by
  have hb := h.obj _ k.at.mem
  refine ⟨h.ab.set hb.1 _, fun x hx => ?_, by rw [k.map]; exact h.nd, fun f hf => ?_⟩
  · rcases k.mem h.nd x hx with rfl | ⟨h1, h2⟩
    · exact ⟨hb.1, hb.2.1, obj_set⟩
    · obtain ⟨h3, h4, h5⟩ := h.obj x h1
      exact ⟨h3, h4, obj_past h2 h5⟩
  · obtain ⟨S, h1, h2, h3, h4⟩ := (h.fact f hf).ex
    have hn := h4 _ k.at.mem
    refine ⟨S, h1, h1 H _ (Nat.le_refl _) (fun l hl => obj_past (fun e => hn (e ▸ hl)) rfl) h2, h3, fun x hx => ?_⟩
    rcases k.mem h.nd x hx with rfl | ⟨h5, _⟩
    · exact hn
    · exact h4 x h5
/-- Something more is known, of places that were made since. -/
theorem Bx.know (h : Bx A H bs fs) (k : Above H H') {f : DH → Prop} (S : Nat → Prop) (h1 : Stay S f) (h2 : f H') (h3 : ∀ l, S l → H.next ≤ l ∧ l < H'.next) : Bx A H' bs (f :: fs) := by
  have h' := h.grow k
  refine ⟨h'.ab, h'.obj, h'.nd, fun g hg => ?_⟩
  rcases List.mem_cons.mp hg with rfl | hg
  · exact ⟨S, h1, h2, fun l hl => (h3 l hl).2, fun b hb hs => by have := (h.obj b hb).2.1; have := (h3 _ hs).1; omega⟩
  · exact h'.fact g hg
theorem Bx.fewer (h : Bx A H bs fs) (k : ∀ b ∈ bs', b ∈ bs) (nd : (bs'.map (·.1)).Nodup) : Bx A H bs' fs :=
  ⟨h.ab, fun b hb => h.obj b (k b hb), nd, fun f hf => by
    obtain ⟨S, h1, h2, h3, h4⟩ := (h.fact f hf).ex
    exact ⟨S, h1, h2, h3, fun b hb => h4 b (k b hb)⟩⟩
theorem Bx.sub (h : Bx A H bs fs) (k : bs'.Sublist bs) : Bx A H bs' fs := h.fewer (fun b hb => k.subset hb) (List.Nodup.sublist (k.map _) h.nd)
section
variable {P : Program} {X : Ext} {o : Oper} {env : List DV} {K : DV → DH → Prop}
theorem bx_box {t : TypeId} {x : Operand} {v : DV} {cs : List DV} {n : Nat} (ho : o.op = .box t x) (hx : evalO env x = some v) (hc : v.cells = cs) (h1 : cs.all DV.one = true) (hn : cs.length = n) (hB : Bx A H bs fs)
    (hk : ∀ b H', Bx A H' ((b, .rows false n [cs]) :: bs) fs → K (.ptr (some (b, 0, 0))) H') : OpWp P X o env H K := by
  subst hc hn
  refine op_at (v := .ptr (some (H.next, 0, 0))) (H' := H.new (.rows false v.cells.length [v.cells])) ?_ (hk _ _ (hB.box _))
  simp only [opD, ho, mover, moveD, hx, newVarD, h1, if_true]
theorem bx_alloc {t : TypeId} {z : DV} {cs : List DV} {n : Nat} (ho : o.op = .alloc t) (hz : zeroT P t = some z) (hc : z.cells = cs) (h1 : cs.all DV.one = true) (hn : cs.length = n) (hB : Bx A H bs fs)
    (hk : ∀ b H', Bx A H' ((b, .rows false n [cs]) :: bs) fs → K (.ptr (some (b, 0, 0))) H') : OpWp P X o env H K := by
  subst hc hn
  refine op_at (v := .ptr (some (H.next, 0, 0))) (H' := H.new (.rows false z.cells.length [z.cells])) ?_ (hk _ _ (hB.box _))
  simp only [opD, ho, mover, moveD, hz, newVarD, h1, if_true]
/-- A load where the row is at place 0. -/
theorem bx_load0 {t : TypeId} {a : Operand} {b q sz : Nat} {ro : Bool} {r : List DV} {v : DV} (ho : o.op = .load t a) (hp : evalO env a = some (.ptr (some (b, 0, q)))) (hB : Bx A H bs fs) (hm : At b (.rows ro sz [r]) bs)
    (hv : partD P t r q = some v) (hk : K v H) : OpWp P X o env H K := op_load_at ho hp (hB.get hm) rfl hv hk
/-- A whole box is written. -/
theorem bx_store0 {t : TypeId} {a x : Operand} {b sz n : Nat} {r cs : List DV} {v : DV} (ho : o.op = .store t a x) (hp : evalO env a = some (.ptr (some (b, 0, 0)))) (hx : evalO env x = some v) (hB : Bx A H bs fs) (hc : v.cells = cs)
    (hu : Upd b (.rows false sz [r]) (.rows false sz [cs]) bs bs') (hl : r.length = cs.length) (h1 : cs.all DV.one = true) (hn : sizeT P t = some n) (hcn : cs.length = n) (hk : ∀ H', Bx A H' bs' fs → K undefD H') : OpWp P X o env H K := by
  subst hc
  refine op_store_at (rs' := [v.cells]) ho hp hx (hB.get hu.at) ?_ hn hcn (hk _ (hB.put hu))
  simp only [setRow, List.getElem?_cons_zero, h1, and_true, Nat.zero_add, hl, Nat.le_refl, if_true, List.set_cons_zero]
  rw [splice, Nat.zero_add, ← hl, List.drop_length, List.append_nil, List.take_zero, List.nil_append]
end
end
end Go.Det

/- Kernels in boxes; what calls come to. -/
namespace Go.Det.Q
open Go Go.Det Go.Proofs
set_option maxRecDepth 4000
set_option maxHeartbeats 8000000
set_option linter.unusedVariables false
set_option linter.unusedSimpArgs false
/-- A slice holds these things. -/
def Is (s : DV) (l : List Item) : DH → Prop := fun H => Its H s l
theorem sl_lt {H : DH} {z loc i w : Nat} {R : List (List DV)} (h : Sl H z R (some (loc, i, w))) : loc < H.next := by cases h; assumption
theorem is_stay (s : DV) (l : List Item) {p : Option (Nat × Nat × Nat)} {n c : Nat} {ex : Bool} (e : s = .sl p n c ex) : Stay (fun loc => ∃ i z, p = some (loc, i, z)) (Is s l) := by
  intro H H' hle hob h
  obtain ⟨p', c', ex', e', hi⟩ := h
  rw [e] at e'
  cases e'
  refine ⟨p, c, ex, e, ?_, hi.nil, hi.len, hi.cap⟩
  have hs := hi.sl
  cases hs with
  | nil a => exact .nil a
  | «at» a1 a2 a3 a4 => exact .at (Nat.lt_of_lt_of_le a1 hle) ((hob _ ⟨_, _, rfl⟩).trans a2) a3 a4
/-- A slice. -/
structure Sv where
  p : Option (Nat × Nat × Nat)
  n : Nat
  c : Nat
  ex : Bool
def Sv.dv (s : Sv) : DV := .sl s.p s.n s.c s.ex
def nilS : Sv := ⟨none, 0, 0, true⟩
theorem Sv.cells (s : Sv) : DV.cells s.dv = [s.dv] := rfl
theorem its_sv {H : DH} {s : DV} {l : List Item} (h : Its H s l) : ∃ v : Sv, s = v.dv := by
  obtain ⟨p, c, ex, e, _⟩ := h
  exact ⟨⟨p, _, c, ex⟩, e⟩
section
variable {A H H' : DH} {bs : List (Nat × DObj)} {fs : List (DH → Prop)} {s s2 : DV} {l : List Item}
theorem is_init (h : Its A s l) : Fact A [] (Is s l) := by
  obtain ⟨p, c, ex, e, hi⟩ := h
  refine ⟨_, is_stay s l e, ⟨p, c, ex, e, hi⟩, ?_, fun b hb => (by cases hb)⟩
  rintro loc ⟨i, z, rfl⟩
  exact sl_lt hi.sl
theorem is_know (hB : Bx A H bs fs) (k : Above H H') (h : ItsF H H' s l) : Bx A H' bs (Is s l :: fs) := by
  obtain ⟨p, c, ex, e, hi, hf⟩ := h
  refine hB.know k _ (is_stay s l e) ⟨p, c, ex, e, hi⟩ ?_
  rintro loc ⟨i, z, rfl⟩
  exact ⟨hf _ _ _ rfl, sl_lt hi.sl⟩
theorem part48 (a b c d : DV) : partD Try.prog 48 [a, b, c, d] 0 = some (.agg [a, b, c, d]) := rfl
theorem part26 (x : Item) : partD Try.prog 26 x.cells 0 = some (.agg x.cells) := rfl
theorem part26' (a b c d e f : DV) : partD Try.prog 26 [a, b, c, d, e, f] 0 = some (.agg [a, b, c, d, e, f]) := rfl
theorem zero48 : zeroT Try.prog 48 = some (.agg [.sl none 0 0 true, .int .u64 0, .int .i64 0, .int .i64 0]) := by kernel_rfl
theorem zero26 : zeroT Try.prog 26 = some (.agg [.int .i64 0, .int .i64 0, .int .u64 0, .int .i64 0, .int .i64 0, .int .u64 0]) := by kernel_rfl
/-- A kernel. -/
structure Kq where
  l : List Item
  nx : Int
  now : Int
  hor : Int
structure Kq.ok (q : Kq) : Prop where
  len : q.l.length ≤ 1000000
  nx : 0 ≤ q.nx ∧ q.nx ≤ 18446744073709551615
def Kq.good (q : Kq) : Bool := kOk q.l q.nx q.now q.hor
def Kq.item (q : Kq) (a k w h m : Int) : Item := ⟨a, k, q.nx, w, h, m⟩
def Kq.postE (q : Kq) (a k : Int) : Int := Q.postE q.l q.nx q.now q.hor a k
def Kq.tok (q : Kq) (a k : Int) : Int := pQ q.l q.nx q.now q.hor a k
def Kq.post (q : Kq) (a k w h m : Int) : Kq := ⟨pL q.l (pushV q.l (q.item a k w h m)) q.nx q.now q.hor a k, pN q.l q.nx q.now q.hor a k, q.now, q.hor⟩
def Kq.rpost (q : Kq) (a k w h m : Int) : Kq := ⟨pL q.l (putL (sortL q.l) (q.item a k w h m)) q.nx q.now q.hor a k, pN q.l q.nx q.now q.hor a k, q.now, q.hor⟩
def Kq.cancelE (q : Kq) (t : Int) : Int := Q.cancelE q.l q.nx q.now q.hor t
def Kq.cancel (q : Kq) (t : Int) : Kq := ⟨cL q.l (takeV q.l t) q.nx q.now q.hor t, q.nx, q.now, q.hor⟩
def Kq.rcancel (q : Kq) (t : Int) : Kq := ⟨cL q.l (rtakeV q.l t) q.nx q.now q.hor t, q.nx, q.now, q.hor⟩
def Kq.stepE (q : Kq) : Int := Q.stepE q.l q.nx q.now q.hor
def Kq.stepX (q : Kq) : Item := sX q.l q.nx q.now q.hor
def Kq.step (q : Kq) : Kq := ⟨sL q.l (popV q.l) q.nx q.now q.hor, q.nx, sW q.l q.nx q.now q.hor, q.hor⟩
def Kq.rstep (q : Kq) : Kq := ⟨sL q.l ((sortL q.l).drop 1) q.nx q.now q.hor, q.nx, sW q.l q.nx q.now q.hor, q.hor⟩
def Kq.peekE (q : Kq) : Int := Q.peekE q.l q.nx q.now q.hor
def Kq.peekX (q : Kq) : Item := Q.peekX q.l q.nx q.now q.hor
def Kq.same (q p : Kq) : Bool := ksame q.l q.nx q.now q.hor p.l p.nx p.now p.hor
def Kq.fine (q p : Kq) : Bool := kfine q.l q.nx q.now q.hor p.l p.nx p.now p.hor
def kNew (x : Int) : Kq := ⟨[], 0, 0, if newOk x then x else 0⟩
def kNewE (x : Int) : Int := if newOk x then 0 else 1
theorem post_some {q : Kq} {a k w h m : Int} (e : q.postE a k = 0) : (q.post a k w h m) = ⟨pushV q.l (q.item a k w h m), q.nx + 1, q.now, q.hor⟩ := by
  have e' : Q.postE q.l q.nx q.now q.hor a k = 0 := e
  simp only [Kq.post, pL, pN, e', if_true]
theorem post_none {q : Kq} {a k w h m : Int} (e : q.postE a k ≠ 0) : (q.post a k w h m) = q := by
  have e' : ¬ Q.postE q.l q.nx q.now q.hor a k = 0 := e
  simp only [Kq.post, pL, pN, e', if_false]
theorem rpost_some {q : Kq} {a k w h m : Int} (e : q.postE a k = 0) : (q.rpost a k w h m) = ⟨putL (sortL q.l) (q.item a k w h m), q.nx + 1, q.now, q.hor⟩ := by
  have e' : Q.postE q.l q.nx q.now q.hor a k = 0 := e
  simp only [Kq.rpost, pL, pN, e', if_true]
theorem rpost_none {q : Kq} {a k w h m : Int} (e : q.postE a k ≠ 0) : (q.rpost a k w h m) = q := by
  have e' : ¬ Q.postE q.l q.nx q.now q.hor a k = 0 := e
  simp only [Kq.rpost, pL, pN, e', if_false]
theorem cancel_some {q : Kq} {t : Int} (e : q.cancelE t = 0) : q.cancel t = ⟨takeV q.l t, q.nx, q.now, q.hor⟩ := by
  have e' : Q.cancelE q.l q.nx q.now q.hor t = 0 := e
  simp only [Kq.cancel, cL, e', if_true]
theorem cancel_none {q : Kq} {t : Int} (e : q.cancelE t ≠ 0) : q.cancel t = q := by
  have e' : ¬ Q.cancelE q.l q.nx q.now q.hor t = 0 := e
  simp only [Kq.cancel, cL, e', if_false]
theorem rcancel_some {q : Kq} {t : Int} (e : q.cancelE t = 0) : q.rcancel t = ⟨rtakeV q.l t, q.nx, q.now, q.hor⟩ := by
  have e' : Q.cancelE q.l q.nx q.now q.hor t = 0 := e
  simp only [Kq.rcancel, cL, e', if_true]
theorem rcancel_none {q : Kq} {t : Int} (e : q.cancelE t ≠ 0) : q.rcancel t = q := by
  have e' : ¬ Q.cancelE q.l q.nx q.now q.hor t = 0 := e
  simp only [Kq.rcancel, cL, e', if_false]
theorem step_some {q : Kq} (e : q.stepE = 0) : q.step = ⟨popV q.l, q.nx, (g q.l 0).a, q.hor⟩ := by
  have e' : Q.stepE q.l q.nx q.now q.hor = 0 := e
  simp only [Kq.step, sL, sW, e', if_true]
theorem step_none {q : Kq} (e : q.stepE ≠ 0) : q.step = q := by
  have e' : ¬ Q.stepE q.l q.nx q.now q.hor = 0 := e
  simp only [Kq.step, sL, sW, e', if_false]
theorem rstep_some {q : Kq} (e : q.stepE = 0) : q.rstep = ⟨(sortL q.l).drop 1, q.nx, (g q.l 0).a, q.hor⟩ := by
  have e' : Q.stepE q.l q.nx q.now q.hor = 0 := e
  simp only [Kq.rstep, sL, sW, e', if_true]
theorem rstep_none {q : Kq} (e : q.stepE ≠ 0) : q.rstep = q := by
  have e' : ¬ Q.stepE q.l q.nx q.now q.hor = 0 := e
  simp only [Kq.rstep, sL, sW, e', if_false]
theorem Kq.post_ok {q : Kq} (h : q.ok) {a k w h' m : Int} : (q.post a k w h' m).ok := by
  by_cases e : q.postE a k = 0
  · rw [post_some e]
    have hp := (post_zero e).2
    have := pushE_zero hp
    refine ⟨?_, ?_⟩
    · show (pushV _ _).length ≤ _
      rw [pushV_len hp]; omega
    · have e' : Q.postE q.l q.nx q.now q.hor a k = 0 := e
      have := h.nx
      have hne : q.nx ≠ 18446744073709551615 := by
        intro e2
        unfold Q.postE at e'
        rw [e2] at e'
        split at e'
        · split at e'
          · cases e'
          · split at e'
            · cases e'
            · cases e'
        · cases e'
      show 0 ≤ q.nx + 1 ∧ q.nx + 1 ≤ _
      omega
  · rw [post_none e]; exact h
theorem Kq.rpost_ok {q : Kq} (h : q.ok) {a k w h' m : Int} : (q.rpost a k w h' m).ok := by
  by_cases e : q.postE a k = 0
  · rw [rpost_some e]
    have hp := (post_zero e).2
    have := pushE_zero hp
    have h2 := (Kq.post_ok h (a := a) (k := k) (w := w) (h' := h') (m := m)).nx
    rw [post_some e] at h2
    refine ⟨?_, h2⟩
    show (putL _ _).length ≤ _
    rw [(putL_perm _ _).length_eq, List.length_cons, (sortL_perm _).length_eq]; omega
  · rw [rpost_none e]; exact h
theorem takeV_len {l : List Item} {t : Int} (h : takeE l t = 0) : (takeV l t).length = l.length - 1 ∧ (rtakeV l t).length = l.length - 1 := by
  obtain ⟨_, _, a, h3, h4, _⟩ := takeE_zero h
  unfold takeV rtakeV
  rw [if_pos h, if_pos h, h3, Int.toNat_natCast, (sortL_perm _).length_eq, withoutL_length (by omega)]
  exact ⟨rfl, rfl⟩
theorem Kq.cancel_ok {q : Kq} (h : q.ok) {t : Int} : (q.cancel t).ok := by
  by_cases e : q.cancelE t = 0
  · rw [cancel_some e]
    have := takeV_len (cancel_zero e)
    have := h.len
    exact ⟨by show (takeV _ _).length ≤ _; omega, h.nx⟩
  · rw [cancel_none e]; exact h
theorem Kq.rcancel_ok {q : Kq} (h : q.ok) {t : Int} : (q.rcancel t).ok := by
  by_cases e : q.cancelE t = 0
  · rw [rcancel_some e]
    have := takeV_len (cancel_zero e)
    have := h.len
    exact ⟨by show (rtakeV _ _).length ≤ _; omega, h.nx⟩
  · rw [rcancel_none e]; exact h
theorem Kq.step_ok {q : Kq} (h : q.ok) : (q.step).ok := by
  by_cases e : q.stepE = 0
  · rw [step_some e]
    have := popV_len (step_zero e)
    have := h.len
    exact ⟨by show (popV _).length ≤ _; omega, h.nx⟩
  · rw [step_none e]; exact h
theorem Kq.rstep_ok {q : Kq} (h : q.ok) : (q.rstep).ok := by
  by_cases e : q.stepE = 0
  · rw [rstep_some e]
    have := h.len
    exact ⟨by show (List.drop 1 _).length ≤ _; rw [List.length_drop, (sortL_perm _).length_eq]; omega, h.nx⟩
  · rw [rstep_none e]; exact h
theorem kNew_ok (x : Int) : (kNew x).ok := ⟨by simp [kNew], by simp [kNew]⟩
variable {s s2 : Sv} {q p : Kq} {K : DV → DH → Prop}
theorem few_b (hB : Bx A H bs fs) (hm : InF (Is s.dv q.l) fs) (hk : K (.bool (decide ((q.l.length : Int) ≤ 200))) H) : CallWp Try.prog K5 35 [.agg [s.dv, .int .u64 q.nx, .int .i64 q.now, .int .i64 q.hor]] H K :=
  call_table (g := gFew) rfl (few_t (hB.has hm)) hk
theorem peek_b (hB : Bx A H bs fs) (hm : InF (Is s.dv q.l) fs) (hk : K (.tuple [.agg q.peekX.cells, .int .i64 q.peekE]) H) : CallWp Try.prog K5 44 [.agg [s.dv, .int .u64 q.nx, .int .i64 q.now, .int .i64 q.hor]] H K :=
  call_table (g := gPeek) rfl (peek_t (hB.has hm)) hk
theorem rpeek_b (hB : Bx A H bs fs) (hm : InF (Is s.dv q.l) fs) (hk : K (.tuple [.agg q.peekX.cells, .int .i64 q.peekE]) H) : CallWp Try.prog K5 45 [.agg [s.dv, .int .u64 q.nx, .int .i64 q.now, .int .i64 q.hor]] H K :=
  call_table (g := gPeek) rfl (peek_t (hB.has hm)) hk
theorem new_b {x : Int} (hB : Bx A H bs fs) (hk : Bx A H bs (Is nilS.dv (kNew x).l :: fs) → K (.tuple [.agg [nilS.dv, .int .u64 (kNew x).nx, .int .i64 (kNew x).now, .int .i64 (kNew x).hor], .int .i64 (kNewE x)]) H) : CallWp Try.prog K5 46 [.int .i64 x] H K :=
  call_table (g := gNew) rfl rfl (hk (is_know hB (Above.refl H) (nilF H H)))
theorem rnew_b {x : Int} (hB : Bx A H bs fs) (hk : Bx A H bs (Is nilS.dv (kNew x).l :: fs) → K (.tuple [.agg [nilS.dv, .int .u64 (kNew x).nx, .int .i64 (kNew x).now, .int .i64 (kNew x).hor], .int .i64 (kNewE x)]) H) : CallWp Try.prog K5 47 [.int .i64 x] H K :=
  call_table (g := gNew) rfl rfl (hk (is_know hB (Above.refl H) (nilF H H)))
theorem fine_b (hB : Bx A H bs fs) (hm : InF (Is s.dv q.l) fs) (hm2 : InF (Is s2.dv p.l) fs) (hq : q.ok) (hp : p.ok) (hk : K (.bool (q.fine p)) H) : CallWp Try.prog K5 39 [.agg [s.dv, .int .u64 q.nx, .int .i64 q.now, .int .i64 q.hor], .agg [s2.dv, .int .u64 p.nx, .int .i64 p.now, .int .i64 p.hor]] H K :=
  call_table (g := gFine) rfl (fine_t (hB.has hm) (hB.has hm2) hq.len hp.len) hk
theorem rsame_b (hB : Bx A H bs fs) (hm : InF (Is s.dv q.l) fs) (hm2 : InF (Is s2.dv p.l) fs) (hq : q.ok) (hp : p.ok) (hk : K (.bool (q.same p)) H) : CallWp Try.prog K5 48 [.agg [s.dv, .int .u64 q.nx, .int .i64 q.now, .int .i64 q.hor], .agg [s2.dv, .int .u64 p.nx, .int .i64 p.now, .int .i64 p.hor]] H K :=
  call_table (g := gKSame) rfl (ksame_t (hB.has hm) (hB.has hm2) hq.len hp.len) hk
theorem lsame_b {l m : List Item} (hB : Bx A H bs fs) (hm : InF (Is s.dv l) fs) (hm2 : InF (Is s2.dv m) fs) (hk : K (.bool (decide (l = m))) H) : CallWp Try.prog K5 21 [s.dv, s2.dv] H K :=
  call_table (g := gSame) rfl (same_t (hB.has hm) (hB.has hm2)) hk
theorem copy_b (hB : Bx A H bs fs) (hm : InF (Is s.dv q.l) fs) (hq : q.ok) (hk : ∀ (s' : Sv) H', Bx A H' bs (Is s'.dv q.l :: fs) → K (.agg [s'.dv, .int .u64 q.nx, .int .i64 q.now, .int .i64 q.hor]) H') : CallWp Try.prog K5 36 [.agg [s.dv, .int .u64 q.nx, .int .i64 q.now, .int .i64 q.hor]] H K := by
  obtain ⟨p, c, ex, e, hl⟩ := hB.has hm
  rw [e]
  refine (copy36 H p c ex q.l q.nx q.now q.hor hl hq.len).mono ?_
  rintro r H' ⟨ab, s', rfl, hi⟩
  obtain ⟨v, rfl⟩ := its_sv hi.its
  exact hk v _ (is_know hB ab hi)
theorem post_b {a k w h m : Int} (hB : Bx A H bs fs) (hm : InF (Is s.dv q.l) fs) (hq : q.ok) (hk : ∀ (s' : Sv) H', Bx A H' bs (Is s'.dv (q.post a k w h m).l :: fs) → K (.tuple [.agg [s'.dv, .int .u64 (q.post a k w h m).nx, .int .i64 (q.post a k w h m).now, .int .i64 (q.post a k w h m).hor], .int .u64 (q.tok a k), .int .i64 (q.postE a k)]) H') :
    CallWp Try.prog K5 37 [.agg [s.dv, .int .u64 q.nx, .int .i64 q.now, .int .i64 q.hor], .int .i64 a, .int .i64 k, .int .i64 w, .int .i64 h, .int .u64 m] H K := by
  obtain ⟨p, c, ex, e, hl⟩ := hB.has hm
  rw [e]
  refine (post37 H p c ex q.l q.nx q.now q.hor a k w h m hl hq.len hq.nx).mono ?_
  intro r H' hp
  obtain ⟨ab, s', rfl, hi⟩ := hp.out
  obtain ⟨v, rfl⟩ := its_sv hi.its
  exact hk v _ (is_know hB ab hi)
theorem rpost_b {a k w h m : Int} (hB : Bx A H bs fs) (hm : InF (Is s.dv q.l) fs) (hq : q.ok) (hk : ∀ (s' : Sv) H', Bx A H' bs (Is s'.dv (q.rpost a k w h m).l :: fs) → K (.tuple [.agg [s'.dv, .int .u64 (q.rpost a k w h m).nx, .int .i64 (q.rpost a k w h m).now, .int .i64 (q.rpost a k w h m).hor], .int .u64 (q.tok a k), .int .i64 (q.postE a k)]) H') :
    CallWp Try.prog K5 38 [.agg [s.dv, .int .u64 q.nx, .int .i64 q.now, .int .i64 q.hor], .int .i64 a, .int .i64 k, .int .i64 w, .int .i64 h, .int .u64 m] H K := by
  obtain ⟨p, c, ex, e, hl⟩ := hB.has hm
  rw [e]
  refine (post38 H p c ex q.l q.nx q.now q.hor a k w h m hl hq.len hq.nx).mono ?_
  intro r H' hp
  obtain ⟨ab, s', rfl, hi⟩ := hp.out
  obtain ⟨v, rfl⟩ := its_sv hi.its
  exact hk v _ (is_know hB ab hi)
theorem cancel_b {t : Int} (hB : Bx A H bs fs) (hm : InF (Is s.dv q.l) fs) (hq : q.ok) (hk : ∀ (s' : Sv) H', Bx A H' bs (Is s'.dv (q.cancel t).l :: fs) → K (.tuple [.agg [s'.dv, .int .u64 (q.cancel t).nx, .int .i64 (q.cancel t).now, .int .i64 (q.cancel t).hor], .int .i64 (q.cancelE t)]) H') :
    CallWp Try.prog K5 40 [.agg [s.dv, .int .u64 q.nx, .int .i64 q.now, .int .i64 q.hor], .int .u64 t] H K := by
  obtain ⟨p, c, ex, e, hl⟩ := hB.has hm
  rw [e]
  refine (cancel40 H p c ex q.l q.nx q.now q.hor t hl hq.len).mono ?_
  intro r H' hp
  obtain ⟨ab, s', rfl, hi⟩ := hp.out
  obtain ⟨v, rfl⟩ := its_sv hi.its
  exact hk v _ (is_know hB ab hi)
theorem rcancel_b {t : Int} (hB : Bx A H bs fs) (hm : InF (Is s.dv q.l) fs) (hq : q.ok) (hk : ∀ (s' : Sv) H', Bx A H' bs (Is s'.dv (q.rcancel t).l :: fs) → K (.tuple [.agg [s'.dv, .int .u64 (q.rcancel t).nx, .int .i64 (q.rcancel t).now, .int .i64 (q.rcancel t).hor], .int .i64 (q.cancelE t)]) H') :
    CallWp Try.prog K5 41 [.agg [s.dv, .int .u64 q.nx, .int .i64 q.now, .int .i64 q.hor], .int .u64 t] H K := by
  obtain ⟨p, c, ex, e, hl⟩ := hB.has hm
  rw [e]
  refine (cancel41 H p c ex q.l q.nx q.now q.hor t hl hq.len).mono ?_
  intro r H' hp
  obtain ⟨ab, s', rfl, hi⟩ := hp.out
  obtain ⟨v, rfl⟩ := its_sv hi.its
  exact hk v _ (is_know hB ab hi)
theorem step_b (hB : Bx A H bs fs) (hm : InF (Is s.dv q.l) fs) (hq : q.ok) (hk : ∀ (s' : Sv) H', Bx A H' bs (Is s'.dv q.step.l :: fs) → K (.tuple [.agg [s'.dv, .int .u64 q.step.nx, .int .i64 q.step.now, .int .i64 q.step.hor], .agg q.stepX.cells, .int .i64 q.stepE]) H') :
    CallWp Try.prog K5 42 [.agg [s.dv, .int .u64 q.nx, .int .i64 q.now, .int .i64 q.hor]] H K := by
  obtain ⟨p, c, ex, e, hl⟩ := hB.has hm
  rw [e]
  refine (step42 H p c ex q.l q.nx q.now q.hor hl hq.len).mono ?_
  intro r H' hp
  obtain ⟨ab, s', rfl, hi⟩ := hp.out
  obtain ⟨v, rfl⟩ := its_sv hi.its
  exact hk v _ (is_know hB ab hi)
theorem rstep_b (hB : Bx A H bs fs) (hm : InF (Is s.dv q.l) fs) (hq : q.ok) (hk : ∀ (s' : Sv) H', Bx A H' bs (Is s'.dv q.rstep.l :: fs) → K (.tuple [.agg [s'.dv, .int .u64 q.rstep.nx, .int .i64 q.rstep.now, .int .i64 q.rstep.hor], .agg q.stepX.cells, .int .i64 q.stepE]) H') :
    CallWp Try.prog K5 43 [.agg [s.dv, .int .u64 q.nx, .int .i64 q.now, .int .i64 q.hor]] H K := by
  obtain ⟨p, c, ex, e, hl⟩ := hB.has hm
  rw [e]
  refine (step43 H p c ex q.l q.nx q.now q.hor hl hq.len).mono ?_
  intro r H' hp
  obtain ⟨ab, s', rfl, hi⟩ := hp.out
  obtain ⟨v, rfl⟩ := its_sv hi.its
  exact hk v _ (is_know hB ab hi)
end
end Go.Det.Q
