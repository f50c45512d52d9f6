/- Kernels: Cancel. -/
import Derived.Test.YtpgobchpnjgbdaaKOrd10
namespace Go.Det.Q
open Go Go.Det Go.Proofs
set_option maxRecDepth 4000
set_option maxHeartbeats 8000000
set_option linter.unusedVariables false
set_option linter.unusedSimpArgs false
def cancelE (l : List Item) (nx now hor q : Int) : Int := if kOk l nx now hor then takeE l q else 1
def CancelS (H : DH) (l good : List Item) (nx now hor q : Int) (r : DV) (H' : DH) : Prop :=
  Above H H' ∧ ∃ s', r = .tuple [.agg [s', .int .u64 nx, .int .i64 now, .int .i64 hor], .int .i64 (cancelE l nx now hor q)] ∧ ItsF H H' s' (if cancelE l nx now hor q = 0 then good else l)
theorem cancel_bad {H H' : DH} {l good : List Item} {nx now hor q e : Int} {s' : DV} (he : cancelE l nx now hor q = e) (h0 : e ≠ 0) (ab : Above H H') (i : ItsF H H' s' l) : CancelS H l good nx now hor q (.tuple [.agg [s', .int .u64 nx, .int .i64 now, .int .i64 hor], .int .i64 e]) H' := by
  subst he
  unfold CancelS
  rw [if_neg h0]
  exact ⟨ab, s', rfl, i⟩
theorem cancel_good {H H' : DH} {l good : List Item} {nx now hor q : Int} {s' : DV} (he : cancelE l nx now hor q = 0) (ab : Above H H') (i : ItsF H H' s' good) : CancelS H l good nx now hor q (.tuple [.agg [s', .int .u64 nx, .int .i64 now, .int .i64 hor], .int .i64 0]) H' := by
  unfold CancelS
  rw [he]
  exact ⟨ab, s', rfl, i⟩
theorem takeE_two {l : List Item} (h : checkB l = true) (q : Int) : takeE l q = 0 ∨ takeE l q = 8 := by
  unfold takeE
  rw [if_pos h]
  split <;> simp
section
variable {H H1 : DH} {rx rb : DObj} (F : AfterC H H1 rx rb) {o d : DObj} {o' : Option DObj}
include F
theorem AfterC.ob4 : ((H1.new o).set H1.next o').obj (H.next + 1) = some rb := by
  rw [set_other (Nat.ne_of_lt F.lt), obj_new_lt F.lt]; exact F.ob
theorem AfterC.ltb4 : H.next + 1 < ((H1.new o).set H1.next o').next := Nat.lt_succ_of_lt F.lt
end
theorem oc4 {H1 : DH} {o : DObj} {o' : Option DObj} : ((H1.new o).set H1.next o').obj H1.next = o' := obj_setA
section
variable (H : DH) (p : Option (Nat × Nat × Nat)) (c : Nat) (ex : Bool) (l : List Item) (nx now hor q : Int) (hl : It H p c ex l) (hn : l.length ≤ 1000000)
include hl hn
theorem cancel40 : CallWp Try.prog K5 40 [.agg [.sl p l.length c ex, .int .u64 nx, .int .i64 now, .int .i64 hor], .int .u64 q] H (CancelS H l (takeV l q) nx now hor q) := by
  have hab2 : ∀ {a b : DObj}, Above H ((H.new a).new b) := fun {a b} => ((Above.refl H).new _).new _
  have hob2 : ∀ {a b : DObj}, ((H.new a).new b).obj (H.next + 1) = some b := fun {a b} => obj_here rfl
  have hox2 : ∀ {a b : DObj}, ((H.new a).new b).obj H.next = some a := fun {a b} => obj_skip (Nat.ne_of_lt (Nat.lt_succ_self _)) (obj_here rfl)
  have lt2 : ∀ {a b : DObj}, H.next + 1 < ((H.new a).new b).next := fun {a b} => Nat.lt_succ_self _
  cases hk : kOk l nx now hor with
  | false =>
    refine enter rfl Try.func40 rfl Try.ntmps40 rfl ?_
    dsimp only [List.cons_append, List.nil_append, List.length_cons, List.length_nil, List.replicate_succ, List.replicate_zero, Nat.reduceAdd, Nat.reduceSub]
    repeat' (first
      | dsimp only [putD, DV.cells, DH.new_next, DH.set_next, List.length_cons, List.length_nil, Nat.reduceAdd, List.set_cons_zero, List.set_cons_succ, getD_zero, getD_succ, fieldAt_zero, fieldAt_succ, thenD, blockD, retR]
      | (refine ⟨_, resOf_ct (loadD_at rfl (by repeat (first | with_reducible assumption | (with_reducible apply obj_here; with_reducible rfl) | with_reducible apply obj_set | (with_reducible apply obj_skip_lo; (· ((repeat (first | with_reducible assumption | with_reducible apply Lo.self | with_reducible apply Lo.new | with_reducible apply Lo.set | with_reducible apply Lo.self1 | with_reducible apply Lo.self2)); done))) | (with_reducible apply obj_past; (· ((first | with_reducible assumption | with_reducible apply ne_add1 | with_reducible apply ne_add1' | with_reducible apply ne_add2 | with_reducible apply ne_add2' | with_reducible apply ne_add12 | with_reducible apply ne_add21 | (with_reducible apply Lo.ne; (repeat (first | with_reducible assumption | with_reducible apply Lo.self | with_reducible apply Lo.new | with_reducible apply Lo.set | with_reducible apply Lo.self1 | with_reducible apply Lo.self2)); done) | (with_reducible apply Lo.ne1; (repeat (first | with_reducible assumption | with_reducible apply Lo.self | with_reducible apply Lo.new | with_reducible apply Lo.set | with_reducible apply Lo.self1 | with_reducible apply Lo.self2)); done) | (with_reducible apply Lo.ne'; (repeat (first | with_reducible assumption | with_reducible apply Lo.self | with_reducible apply Lo.new | with_reducible apply Lo.set | with_reducible apply Lo.self1 | with_reducible apply Lo.self2)); done) | (with_reducible apply Lo.ne1'; (repeat (first | with_reducible assumption | with_reducible apply Lo.self | with_reducible apply Lo.new | with_reducible apply Lo.set | with_reducible apply Lo.self1 | with_reducible apply Lo.self2)); done)); done))) | exact obj_here rfl)) rfl rfl), ?_⟩)
      | apply dwp_seq
      | apply dwp_region
      | apply ops_nil
      | (apply ops_plain; (· exact rfl))
      | (apply op_call; (· exact rfl); (· exact rfl); (· exact rfl); refine call_table (g := gKc) rfl (kc_t (⟨_, _, _, rfl, hl.mono (by first | exact hab4 | exact hab2)⟩ : Its _ (.sl p l.length c ex) l)) ?_; rw [hk, if_neg Bool.false_ne_true])
      | (apply op_call; (· exact rfl); (· exact rfl); (· exact rfl); refine (own64 _ p c ex l nx now hor (hl.mono (by first | exact hab4 | exact hab2)) hn).mono ?_; rintro r H5 ⟨ab5, s5, rfl, p5, c5, e5, rfl, it5, if5⟩; have i5 : ItsF _ H5 (.sl p5 l.length c5 e5) l := ⟨p5, c5, e5, rfl, it5, if5⟩; have aa5 : Above H H5 := Above.trans (by first | exact hab4 | exact hab2) ab5; have hob5 := ab5.obj (l := H.next + 1) (by first | exact F4.ltb4 | exact lt2) (by first | exact F4.ob4 | exact hob2); have lt5 : H.next + 1 < H5.next := Nat.lt_of_lt_of_le (by first | exact F4.ltb4 | exact lt2) ab5.le; have hlb5 : Lo H5 (H.next + 1) := lo lt5)
      | (apply op_load_at; (· exact rfl); (· exact rfl); (· repeat (first | with_reducible assumption | (with_reducible apply obj_here; with_reducible rfl) | with_reducible apply obj_set | (with_reducible apply obj_skip_lo; (· ((repeat (first | with_reducible assumption | with_reducible apply Lo.self | with_reducible apply Lo.new | with_reducible apply Lo.set | with_reducible apply Lo.self1 | with_reducible apply Lo.self2)); done))) | (with_reducible apply obj_past; (· ((first | with_reducible assumption | with_reducible apply ne_add1 | with_reducible apply ne_add1' | with_reducible apply ne_add2 | with_reducible apply ne_add2' | with_reducible apply ne_add12 | with_reducible apply ne_add21 | (with_reducible apply Lo.ne; (repeat (first | with_reducible assumption | with_reducible apply Lo.self | with_reducible apply Lo.new | with_reducible apply Lo.set | with_reducible apply Lo.self1 | with_reducible apply Lo.self2)); done) | (with_reducible apply Lo.ne1; (repeat (first | with_reducible assumption | with_reducible apply Lo.self | with_reducible apply Lo.new | with_reducible apply Lo.set | with_reducible apply Lo.self1 | with_reducible apply Lo.self2)); done) | (with_reducible apply Lo.ne'; (repeat (first | with_reducible assumption | with_reducible apply Lo.self | with_reducible apply Lo.new | with_reducible apply Lo.set | with_reducible apply Lo.self1 | with_reducible apply Lo.self2)); done) | (with_reducible apply Lo.ne1'; (repeat (first | with_reducible assumption | with_reducible apply Lo.self | with_reducible apply Lo.new | with_reducible apply Lo.set | with_reducible apply Lo.self1 | with_reducible apply Lo.self2)); done)); done))) | exact obj_here rfl)); (· exact rfl); (· exact rfl))
      | (apply op_store_at; (· exact rfl); (· exact rfl); (· exact rfl); (· repeat (first | with_reducible assumption | (with_reducible apply obj_here; with_reducible rfl) | with_reducible apply obj_set | (with_reducible apply obj_skip_lo; (· ((repeat (first | with_reducible assumption | with_reducible apply Lo.self | with_reducible apply Lo.new | with_reducible apply Lo.set | with_reducible apply Lo.self1 | with_reducible apply Lo.self2)); done))) | (with_reducible apply obj_past; (· ((first | with_reducible assumption | with_reducible apply ne_add1 | with_reducible apply ne_add1' | with_reducible apply ne_add2 | with_reducible apply ne_add2' | with_reducible apply ne_add12 | with_reducible apply ne_add21 | (with_reducible apply Lo.ne; (repeat (first | with_reducible assumption | with_reducible apply Lo.self | with_reducible apply Lo.new | with_reducible apply Lo.set | with_reducible apply Lo.self1 | with_reducible apply Lo.self2)); done) | (with_reducible apply Lo.ne1; (repeat (first | with_reducible assumption | with_reducible apply Lo.self | with_reducible apply Lo.new | with_reducible apply Lo.set | with_reducible apply Lo.self1 | with_reducible apply Lo.self2)); done) | (with_reducible apply Lo.ne'; (repeat (first | with_reducible assumption | with_reducible apply Lo.self | with_reducible apply Lo.new | with_reducible apply Lo.set | with_reducible apply Lo.self1 | with_reducible apply Lo.self2)); done) | (with_reducible apply Lo.ne1'; (repeat (first | with_reducible assumption | with_reducible apply Lo.self | with_reducible apply Lo.new | with_reducible apply Lo.set | with_reducible apply Lo.self1 | with_reducible apply Lo.self2)); done)); done))) | exact obj_here rfl)); (· exact rfl); (· exact rfl); (· exact rfl))
      | (apply op_at; (· exact rfl))
      | (apply dwp_cond_t; (· exact rfl); (· (first | with_reducible assumption | with_reducible rfl | decide)))
      | apply dwp_ret
      | fail)
    any_goals first | exact cancel_bad (by unfold cancelE; rw [hk]; first | rfl | exact hT) (by decide) (aa5.set (Nat.le_succ _) _) ((i5.set (by first | exact F4.ltb4 | exact lt2)).older (by first | exact hab4.le | exact hab2.le)) | skip
  | true =>
    rcases takeE_two (kOk_check hk) q with hT | hT
    · skip
      refine enter rfl Try.func40 rfl Try.ntmps40 rfl ?_
      dsimp only [List.cons_append, List.nil_append, List.length_cons, List.length_nil, List.replicate_succ, List.replicate_zero, Nat.reduceAdd, Nat.reduceSub]
      repeat' (first
        | dsimp only [putD, DV.cells, DH.new_next, DH.set_next, List.length_cons, List.length_nil, Nat.reduceAdd, List.set_cons_zero, List.set_cons_succ, getD_zero, getD_succ, fieldAt_zero, fieldAt_succ, thenD, blockD, retR]
        | (refine ⟨_, resOf_ct (loadD_at rfl (by repeat (first | with_reducible assumption | (with_reducible apply obj_here; with_reducible rfl) | with_reducible apply obj_set | (with_reducible apply obj_skip_lo; (· ((repeat (first | with_reducible assumption | with_reducible apply Lo.self | with_reducible apply Lo.new | with_reducible apply Lo.set | with_reducible apply Lo.self1 | with_reducible apply Lo.self2)); done))) | (with_reducible apply obj_past; (· ((first | with_reducible assumption | with_reducible apply ne_add1 | with_reducible apply ne_add1' | with_reducible apply ne_add2 | with_reducible apply ne_add2' | with_reducible apply ne_add12 | with_reducible apply ne_add21 | (with_reducible apply Lo.ne; (repeat (first | with_reducible assumption | with_reducible apply Lo.self | with_reducible apply Lo.new | with_reducible apply Lo.set | with_reducible apply Lo.self1 | with_reducible apply Lo.self2)); done) | (with_reducible apply Lo.ne1; (repeat (first | with_reducible assumption | with_reducible apply Lo.self | with_reducible apply Lo.new | with_reducible apply Lo.set | with_reducible apply Lo.self1 | with_reducible apply Lo.self2)); done) | (with_reducible apply Lo.ne'; (repeat (first | with_reducible assumption | with_reducible apply Lo.self | with_reducible apply Lo.new | with_reducible apply Lo.set | with_reducible apply Lo.self1 | with_reducible apply Lo.self2)); done) | (with_reducible apply Lo.ne1'; (repeat (first | with_reducible assumption | with_reducible apply Lo.self | with_reducible apply Lo.new | with_reducible apply Lo.set | with_reducible apply Lo.self1 | with_reducible apply Lo.self2)); done)); done))) | exact obj_here rfl)) rfl rfl), ?_⟩)
        | apply dwp_seq
        | apply dwp_region
        | apply ops_nil
        | (apply ops_plain; (· exact rfl))
        | (apply op_call; (· exact rfl); (· exact rfl); (· exact rfl); refine call_table (g := gKc) rfl (kc_t (⟨_, _, _, rfl, hl.mono (by first | exact hab4 | exact hab2)⟩ : Its _ (.sl p l.length c ex) l)) ?_; rw [hk, if_pos rfl])
        | (apply op_call; (· exact rfl); (· exact rfl); (· exact rfl); refine (CallWp.up upK5 (take_c q (⟨_, _, _, rfl, hl.mono hab2⟩ : Its _ (.sl p l.length c ex) l) hn)).mono ?_; rintro r H4 ⟨ab4, s4, rfl, p4, c4, e4, rfl, it4, if4⟩; rw [hT]; have F4 := AfterC.of ab4; have aa4 := F4.aa; have hob4 := F4.ob; have hox4 := F4.ox; have lt4 := F4.lt; have hlb4 : Lo H4 (H.next + 1) := lo lt4; have hlx4 : Lo H4 H.next := lo (Nat.lt_of_succ_lt lt4); have hab4 : ∀ {o o'}, Above H ((H4.new o).set H4.next o') := fun {o o'} => aa4.trans aboveQ)
        | (apply op_store_at; (· exact rfl); (· exact rfl); (· exact rfl); (· exact obj_here rfl); (· exact rfl); (· exact rfl); (· exact rfl))
        | (apply op_load_at; (· exact rfl); (· exact rfl); (· repeat (first | with_reducible assumption | (with_reducible apply obj_here; with_reducible rfl) | with_reducible apply obj_set | (with_reducible apply obj_skip_lo; (· ((repeat (first | with_reducible assumption | with_reducible apply Lo.self | with_reducible apply Lo.new | with_reducible apply Lo.set | with_reducible apply Lo.self1 | with_reducible apply Lo.self2)); done))) | (with_reducible apply obj_past; (· ((first | with_reducible assumption | with_reducible apply ne_add1 | with_reducible apply ne_add1' | with_reducible apply ne_add2 | with_reducible apply ne_add2' | with_reducible apply ne_add12 | with_reducible apply ne_add21 | (with_reducible apply Lo.ne; (repeat (first | with_reducible assumption | with_reducible apply Lo.self | with_reducible apply Lo.new | with_reducible apply Lo.set | with_reducible apply Lo.self1 | with_reducible apply Lo.self2)); done) | (with_reducible apply Lo.ne1; (repeat (first | with_reducible assumption | with_reducible apply Lo.self | with_reducible apply Lo.new | with_reducible apply Lo.set | with_reducible apply Lo.self1 | with_reducible apply Lo.self2)); done) | (with_reducible apply Lo.ne'; (repeat (first | with_reducible assumption | with_reducible apply Lo.self | with_reducible apply Lo.new | with_reducible apply Lo.set | with_reducible apply Lo.self1 | with_reducible apply Lo.self2)); done) | (with_reducible apply Lo.ne1'; (repeat (first | with_reducible assumption | with_reducible apply Lo.self | with_reducible apply Lo.new | with_reducible apply Lo.set | with_reducible apply Lo.self1 | with_reducible apply Lo.self2)); done)); done))) | exact obj_here rfl)); (· exact rfl); (· exact rfl))
        | (apply op_store_at; (· exact rfl); (· exact rfl); (· exact rfl); (· repeat (first | with_reducible assumption | (with_reducible apply obj_here; with_reducible rfl) | with_reducible apply obj_set | (with_reducible apply obj_skip_lo; (· ((repeat (first | with_reducible assumption | with_reducible apply Lo.self | with_reducible apply Lo.new | with_reducible apply Lo.set | with_reducible apply Lo.self1 | with_reducible apply Lo.self2)); done))) | (with_reducible apply obj_past; (· ((first | with_reducible assumption | with_reducible apply ne_add1 | with_reducible apply ne_add1' | with_reducible apply ne_add2 | with_reducible apply ne_add2' | with_reducible apply ne_add12 | with_reducible apply ne_add21 | (with_reducible apply Lo.ne; (repeat (first | with_reducible assumption | with_reducible apply Lo.self | with_reducible apply Lo.new | with_reducible apply Lo.set | with_reducible apply Lo.self1 | with_reducible apply Lo.self2)); done) | (with_reducible apply Lo.ne1; (repeat (first | with_reducible assumption | with_reducible apply Lo.self | with_reducible apply Lo.new | with_reducible apply Lo.set | with_reducible apply Lo.self1 | with_reducible apply Lo.self2)); done) | (with_reducible apply Lo.ne'; (repeat (first | with_reducible assumption | with_reducible apply Lo.self | with_reducible apply Lo.new | with_reducible apply Lo.set | with_reducible apply Lo.self1 | with_reducible apply Lo.self2)); done) | (with_reducible apply Lo.ne1'; (repeat (first | with_reducible assumption | with_reducible apply Lo.self | with_reducible apply Lo.new | with_reducible apply Lo.set | with_reducible apply Lo.self1 | with_reducible apply Lo.self2)); done)); done))) | exact obj_here rfl)); (· exact rfl); (· exact rfl); (· exact rfl))
        | (apply op_at; (· exact rfl))
        | (apply dwp_cond_f; (· exact rfl); (· (first | with_reducible assumption | with_reducible rfl | decide)))
        | apply dwp_skip
        | apply dwp_ret
        | fail)
      exact cancel_good (by unfold cancelE; rw [hk]; exact hT) ((Above.set hab4 (Nat.le_refl _) _).set (Nat.le_succ _) _) (((ItsF.set (ItsF.mono ⟨p4, c4, e4, rfl, it4, if4⟩ aboveQ) (Nat.lt_of_succ_lt lt2)).set lt2).older hab2.le)
    · skip
      refine enter rfl Try.func40 rfl Try.ntmps40 rfl ?_
      dsimp only [List.cons_append, List.nil_append, List.length_cons, List.length_nil, List.replicate_succ, List.replicate_zero, Nat.reduceAdd, Nat.reduceSub]
      repeat' (first
        | dsimp only [putD, DV.cells, DH.new_next, DH.set_next, List.length_cons, List.length_nil, Nat.reduceAdd, List.set_cons_zero, List.set_cons_succ, getD_zero, getD_succ, fieldAt_zero, fieldAt_succ, thenD, blockD, retR]
        | (refine ⟨_, resOf_ct (loadD_at rfl (by repeat (first | with_reducible assumption | (with_reducible apply obj_here; with_reducible rfl) | with_reducible apply obj_set | (with_reducible apply obj_skip_lo; (· ((repeat (first | with_reducible assumption | with_reducible apply Lo.self | with_reducible apply Lo.new | with_reducible apply Lo.set | with_reducible apply Lo.self1 | with_reducible apply Lo.self2)); done))) | (with_reducible apply obj_past; (· ((first | with_reducible assumption | with_reducible apply ne_add1 | with_reducible apply ne_add1' | with_reducible apply ne_add2 | with_reducible apply ne_add2' | with_reducible apply ne_add12 | with_reducible apply ne_add21 | (with_reducible apply Lo.ne; (repeat (first | with_reducible assumption | with_reducible apply Lo.self | with_reducible apply Lo.new | with_reducible apply Lo.set | with_reducible apply Lo.self1 | with_reducible apply Lo.self2)); done) | (with_reducible apply Lo.ne1; (repeat (first | with_reducible assumption | with_reducible apply Lo.self | with_reducible apply Lo.new | with_reducible apply Lo.set | with_reducible apply Lo.self1 | with_reducible apply Lo.self2)); done) | (with_reducible apply Lo.ne'; (repeat (first | with_reducible assumption | with_reducible apply Lo.self | with_reducible apply Lo.new | with_reducible apply Lo.set | with_reducible apply Lo.self1 | with_reducible apply Lo.self2)); done) | (with_reducible apply Lo.ne1'; (repeat (first | with_reducible assumption | with_reducible apply Lo.self | with_reducible apply Lo.new | with_reducible apply Lo.set | with_reducible apply Lo.self1 | with_reducible apply Lo.self2)); done)); done))) | exact obj_here rfl)) rfl rfl), ?_⟩)
        | apply dwp_seq
        | apply dwp_region
        | apply ops_nil
        | (apply ops_plain; (· exact rfl))
        | (apply op_call; (· exact rfl); (· exact rfl); (· exact rfl); refine call_table (g := gKc) rfl (kc_t (⟨_, _, _, rfl, hl.mono (by first | exact hab4 | exact hab2)⟩ : Its _ (.sl p l.length c ex) l)) ?_; rw [hk, if_pos rfl])
        | (apply op_call; (· exact rfl); (· exact rfl); (· exact rfl); refine (own64 _ p c ex l nx now hor (hl.mono (by first | exact hab4 | exact hab2)) hn).mono ?_; rintro r H5 ⟨ab5, s5, rfl, p5, c5, e5, rfl, it5, if5⟩; have i5 : ItsF _ H5 (.sl p5 l.length c5 e5) l := ⟨p5, c5, e5, rfl, it5, if5⟩; have aa5 : Above H H5 := Above.trans (by first | exact hab4 | exact hab2) ab5; have hob5 := ab5.obj (l := H.next + 1) (by first | exact F4.ltb4 | exact lt2) (by first | exact F4.ob4 | exact hob2); have lt5 : H.next + 1 < H5.next := Nat.lt_of_lt_of_le (by first | exact F4.ltb4 | exact lt2) ab5.le; have hlb5 : Lo H5 (H.next + 1) := lo lt5)
        | (apply op_call; (· exact rfl); (· exact rfl); (· exact rfl); refine (CallWp.up upK5 (take_c q (⟨_, _, _, rfl, hl.mono hab2⟩ : Its _ (.sl p l.length c ex) l) hn)).mono ?_; rintro r H4 ⟨ab4, s4, rfl, p4, c4, e4, rfl, it4, if4⟩; rw [hT]; have F4 := AfterC.of ab4; have aa4 := F4.aa; have hob4 := F4.ob; have hox4 := F4.ox; have lt4 := F4.lt; have hlb4 : Lo H4 (H.next + 1) := lo lt4; have hlx4 : Lo H4 H.next := lo (Nat.lt_of_succ_lt lt4); have hab4 : ∀ {o o'}, Above H ((H4.new o).set H4.next o') := fun {o o'} => aa4.trans aboveQ)
        | (apply op_store_at; (· exact rfl); (· exact rfl); (· exact rfl); (· exact obj_here rfl); (· exact rfl); (· exact rfl); (· exact rfl))
        | (apply op_load_at; (· exact rfl); (· exact rfl); (· repeat (first | with_reducible assumption | (with_reducible apply obj_here; with_reducible rfl) | with_reducible apply obj_set | (with_reducible apply obj_skip_lo; (· ((repeat (first | with_reducible assumption | with_reducible apply Lo.self | with_reducible apply Lo.new | with_reducible apply Lo.set | with_reducible apply Lo.self1 | with_reducible apply Lo.self2)); done))) | (with_reducible apply obj_past; (· ((first | with_reducible assumption | with_reducible apply ne_add1 | with_reducible apply ne_add1' | with_reducible apply ne_add2 | with_reducible apply ne_add2' | with_reducible apply ne_add12 | with_reducible apply ne_add21 | (with_reducible apply Lo.ne; (repeat (first | with_reducible assumption | with_reducible apply Lo.self | with_reducible apply Lo.new | with_reducible apply Lo.set | with_reducible apply Lo.self1 | with_reducible apply Lo.self2)); done) | (with_reducible apply Lo.ne1; (repeat (first | with_reducible assumption | with_reducible apply Lo.self | with_reducible apply Lo.new | with_reducible apply Lo.set | with_reducible apply Lo.self1 | with_reducible apply Lo.self2)); done) | (with_reducible apply Lo.ne'; (repeat (first | with_reducible assumption | with_reducible apply Lo.self | with_reducible apply Lo.new | with_reducible apply Lo.set | with_reducible apply Lo.self1 | with_reducible apply Lo.self2)); done) | (with_reducible apply Lo.ne1'; (repeat (first | with_reducible assumption | with_reducible apply Lo.self | with_reducible apply Lo.new | with_reducible apply Lo.set | with_reducible apply Lo.self1 | with_reducible apply Lo.self2)); done)); done))) | exact obj_here rfl)); (· exact rfl); (· exact rfl))
        | (apply op_store_at; (· exact rfl); (· exact rfl); (· exact rfl); (· repeat (first | with_reducible assumption | (with_reducible apply obj_here; with_reducible rfl) | with_reducible apply obj_set | (with_reducible apply obj_skip_lo; (· ((repeat (first | with_reducible assumption | with_reducible apply Lo.self | with_reducible apply Lo.new | with_reducible apply Lo.set | with_reducible apply Lo.self1 | with_reducible apply Lo.self2)); done))) | (with_reducible apply obj_past; (· ((first | with_reducible assumption | with_reducible apply ne_add1 | with_reducible apply ne_add1' | with_reducible apply ne_add2 | with_reducible apply ne_add2' | with_reducible apply ne_add12 | with_reducible apply ne_add21 | (with_reducible apply Lo.ne; (repeat (first | with_reducible assumption | with_reducible apply Lo.self | with_reducible apply Lo.new | with_reducible apply Lo.set | with_reducible apply Lo.self1 | with_reducible apply Lo.self2)); done) | (with_reducible apply Lo.ne1; (repeat (first | with_reducible assumption | with_reducible apply Lo.self | with_reducible apply Lo.new | with_reducible apply Lo.set | with_reducible apply Lo.self1 | with_reducible apply Lo.self2)); done) | (with_reducible apply Lo.ne'; (repeat (first | with_reducible assumption | with_reducible apply Lo.self | with_reducible apply Lo.new | with_reducible apply Lo.set | with_reducible apply Lo.self1 | with_reducible apply Lo.self2)); done) | (with_reducible apply Lo.ne1'; (repeat (first | with_reducible assumption | with_reducible apply Lo.self | with_reducible apply Lo.new | with_reducible apply Lo.set | with_reducible apply Lo.self1 | with_reducible apply Lo.self2)); done)); done))) | exact obj_here rfl)); (· exact rfl); (· exact rfl); (· exact rfl))
        | (apply op_at; (· exact rfl))
        | (apply dwp_cond_t; (· exact rfl); (· (first | with_reducible assumption | with_reducible rfl | decide)))
        | (apply dwp_cond_f; (· exact rfl); (· (first | with_reducible assumption | with_reducible rfl | decide)))
        | apply dwp_skip
        | apply dwp_ret
        | fail)
      any_goals first | exact cancel_bad (by unfold cancelE; rw [hk]; first | rfl | exact hT) (by decide) (aa5.set (Nat.le_succ _) _) ((i5.set (by first | exact F4.ltb4 | exact lt2)).older (by first | exact hab4.le | exact hab2.le)) | skip
end
end Go.Det.Q

/- Kernels: Step. -/
namespace Go.Det.Q
open Go Go.Det Go.Proofs
set_option maxRecDepth 4000
set_option maxHeartbeats 8000000
set_option linter.unusedVariables false
set_option linter.unusedSimpArgs false
def stepE (l : List Item) (nx now hor : Int) : Int := if peekE l nx now hor = 0 then (if decide ((g l 0).a > hor) then 2 else 0) else peekE l nx now hor
def StepS (H : DH) (l good : List Item) (nx now hor : Int) (r : DV) (H' : DH) : Prop :=
  Above H H' ∧ ∃ s', r = .tuple [.agg [s', .int .u64 nx, .int .i64 (if stepE l nx now hor = 0 then (g l 0).a else now), .int .i64 hor], .agg (if stepE l nx now hor = 0 then g l 0 else zeroI).cells, .int .i64 (stepE l nx now hor)] ∧ ItsF H H' s' (if stepE l nx now hor = 0 then good else l)
theorem step_bad {H H' : DH} {l good : List Item} {nx now hor e : Int} {s' : DV} (he : stepE l nx now hor = e) (h0 : e ≠ 0) (ab : Above H H') (i : ItsF H H' s' l) : StepS H l good nx now hor (.tuple [.agg [s', .int .u64 nx, .int .i64 now, .int .i64 hor], .agg zeroI.cells, .int .i64 e]) H' := by
  subst he
  unfold StepS
  rw [if_neg h0, if_neg h0, if_neg h0]
  exact ⟨ab, s', rfl, i⟩
theorem step_good {H H' : DH} {l good : List Item} {nx now hor : Int} {s' : DV} (he : stepE l nx now hor = 0) (ab : Above H H') (i : ItsF H H' s' good) : StepS H l good nx now hor (.tuple [.agg [s', .int .u64 nx, .int .i64 (g l 0).a, .int .i64 hor], .agg (g l 0).cells, .int .i64 0]) H' := by
  unfold StepS
  rw [he]
  exact ⟨ab, s', rfl, i⟩
theorem peekE_three (l : List Item) (nx now hor : Int) : peekE l nx now hor = 0 ∨ peekE l nx now hor = 1 ∨ peekE l nx now hor = 8 := by
  unfold peekE
  split
  · split <;> simp
  · simp
theorem peek_ok {l : List Item} {nx now hor : Int} (h : peekE l nx now hor = 0) : kOk l nx now hor = true ∧ l ≠ [] := by
  unfold peekE at h
  split at h
  · rename_i hk
    split at h
    · cases h
    · rename_i hne; exact ⟨hk, hne⟩
  · cases h
section
variable {H : DH} {a b d z : DObj} {o : Option DObj}
theorem s4_0 : (((((H.new a).new b).new d).new z).set (H.next + 1 + 1 + 1) o).obj H.next = some a := by
  rw [set_other (show H.next ≠ H.next + 1 + 1 + 1 by omega), obj_new_lt (show H.next < H.next + 1 + 1 + 1 by omega), obj_new_lt (show H.next < H.next + 1 + 1 by omega), obj_new_lt (show H.next < H.next + 1 by omega)]; exact obj_here rfl
theorem s4_1 : (((((H.new a).new b).new d).new z).set (H.next + 1 + 1 + 1) o).obj (H.next + 1) = some b := by
  rw [set_other (show H.next + 1 ≠ H.next + 1 + 1 + 1 by omega), obj_new_lt (show H.next + 1 < H.next + 1 + 1 + 1 by omega), obj_new_lt (show H.next + 1 < H.next + 1 + 1 by omega)]; exact obj_here rfl
theorem s4_2 : (((((H.new a).new b).new d).new z).set (H.next + 1 + 1 + 1) o).obj (H.next + 1 + 1) = some d := by
  rw [set_other (show H.next + 1 + 1 ≠ H.next + 1 + 1 + 1 by omega), obj_new_lt (show H.next + 1 + 1 < H.next + 1 + 1 + 1 by omega)]; exact obj_here rfl
theorem s4_3 : (((((H.new a).new b).new d).new z).set (H.next + 1 + 1 + 1) o).obj (H.next + 1 + 1 + 1) = o := obj_setA
theorem s4_above : Above H (((((H.new a).new b).new d).new z).set (H.next + 1 + 1 + 1) o) := (((((Above.refl H).new _).new _).new _).new _).set (show H.next ≤ H.next + 1 + 1 + 1 by omega) _
theorem s3_above : Above H (((H.new a).new b).new d) := (((Above.refl H).new _).new _).new _
end
/-- What lies where, behind what grew from four blocks. -/
structure AfterD (H H1 : DH) (a b d : DObj) (o : Option DObj) : Prop where
  aa : Above H H1
  o0 : H1.obj H.next = some a
  o1 : H1.obj (H.next + 1) = some b
  o2 : H1.obj (H.next + 1 + 1) = some d
  o3 : ∀ x, o = some x → H1.obj (H.next + 1 + 1 + 1) = some x
  lt : H.next + 1 + 1 + 1 < H1.next
theorem AfterD.of {H H1 : DH} {a b d z : DObj} {o : Option DObj} (ab : Above (((((H.new a).new b).new d).new z).set (H.next + 1 + 1 + 1) o) H1) : AfterD H H1 a b d o where
  aa := s4_above.trans ab
  o0 := ab.obj (show H.next < H.next + 1 + 1 + 1 + 1 by omega) s4_0
  o1 := ab.obj (show H.next + 1 < H.next + 1 + 1 + 1 + 1 by omega) s4_1
  o2 := ab.obj (show H.next + 1 + 1 < H.next + 1 + 1 + 1 + 1 by omega) s4_2
  o3 := fun x hx => ab.obj (show H.next + 1 + 1 + 1 < H.next + 1 + 1 + 1 + 1 by omega) (s4_3.trans hx)
  lt := Nat.lt_of_lt_of_le (show H.next + 1 + 1 + 1 < H.next + 1 + 1 + 1 + 1 by omega) ab.le
section
variable (H : DH) (p : Option (Nat × Nat × Nat)) (c : Nat) (ex : Bool) (l : List Item) (nx now hor : Int) (hl : It H p c ex l) (hn : l.length ≤ 1000000)
include hl hn
theorem step42 : CallWp Try.prog K5 42 [.agg [.sl p l.length c ex, .int .u64 nx, .int .i64 now, .int .i64 hor]] H (StepS H l (popV l) nx now hor) := by
  rcases peekE_three l nx now hor with hE | hE | hE
  · obtain ⟨hk, hne⟩ := peek_ok hE
    have hX : peekX l nx now hor = g l 0 := by unfold peekX; rw [hE]; rfl
    have hP : popE l = 0 := popE_ok (kOk_check hk) hne
    cases hg : decide ((g l 0).a > hor) with
    | true =>
      refine enter rfl Try.func42 rfl Try.ntmps42 rfl ?_
      dsimp only [List.cons_append, List.nil_append, List.length_cons, List.length_nil, List.replicate_succ, List.replicate_zero, Nat.reduceAdd, Nat.reduceSub]
      repeat' (first
        | dsimp only [putD, DV.cells, DH.new_next, DH.set_next, List.length_cons, List.length_nil, Nat.reduceAdd, List.set_cons_zero, List.set_cons_succ, getD_zero, getD_succ, fieldAt_zero, fieldAt_succ, thenD, blockD, retR]
        | (refine ⟨_, resOf_cct (loadD_at rfl (by repeat (first | with_reducible assumption | (with_reducible apply obj_here; with_reducible rfl) | with_reducible apply obj_set | (with_reducible apply obj_skip_lo; (· ((repeat (first | with_reducible assumption | with_reducible apply Lo.self | with_reducible apply Lo.new | with_reducible apply Lo.set | with_reducible apply Lo.self1 | with_reducible apply Lo.self2)); done))) | (with_reducible apply obj_past; (· ((first | with_reducible assumption | with_reducible apply ne_add1 | with_reducible apply ne_add1' | with_reducible apply ne_add2 | with_reducible apply ne_add2' | with_reducible apply ne_add12 | with_reducible apply ne_add21 | (with_reducible apply Lo.ne; (repeat (first | with_reducible assumption | with_reducible apply Lo.self | with_reducible apply Lo.new | with_reducible apply Lo.set | with_reducible apply Lo.self1 | with_reducible apply Lo.self2)); done) | (with_reducible apply Lo.ne1; (repeat (first | with_reducible assumption | with_reducible apply Lo.self | with_reducible apply Lo.new | with_reducible apply Lo.set | with_reducible apply Lo.self1 | with_reducible apply Lo.self2)); done) | (with_reducible apply Lo.ne'; (repeat (first | with_reducible assumption | with_reducible apply Lo.self | with_reducible apply Lo.new | with_reducible apply Lo.set | with_reducible apply Lo.self1 | with_reducible apply Lo.self2)); done) | (with_reducible apply Lo.ne1'; (repeat (first | with_reducible assumption | with_reducible apply Lo.self | with_reducible apply Lo.new | with_reducible apply Lo.set | with_reducible apply Lo.self1 | with_reducible apply Lo.self2)); done)); done))) | exact obj_here rfl)) rfl rfl) (loadD_at rfl (by repeat (first | with_reducible assumption | (with_reducible apply obj_here; with_reducible rfl) | with_reducible apply obj_set | (with_reducible apply obj_skip_lo; (· ((repeat (first | with_reducible assumption | with_reducible apply Lo.self | with_reducible apply Lo.new | with_reducible apply Lo.set | with_reducible apply Lo.self1 | with_reducible apply Lo.self2)); done))) | (with_reducible apply obj_past; (· ((first | with_reducible assumption | with_reducible apply ne_add1 | with_reducible apply ne_add1' | with_reducible apply ne_add2 | with_reducible apply ne_add2' | with_reducible apply ne_add12 | with_reducible apply ne_add21 | (with_reducible apply Lo.ne; (repeat (first | with_reducible assumption | with_reducible apply Lo.self | with_reducible apply Lo.new | with_reducible apply Lo.set | with_reducible apply Lo.self1 | with_reducible apply Lo.self2)); done) | (with_reducible apply Lo.ne1; (repeat (first | with_reducible assumption | with_reducible apply Lo.self | with_reducible apply Lo.new | with_reducible apply Lo.set | with_reducible apply Lo.self1 | with_reducible apply Lo.self2)); done) | (with_reducible apply Lo.ne'; (repeat (first | with_reducible assumption | with_reducible apply Lo.self | with_reducible apply Lo.new | with_reducible apply Lo.set | with_reducible apply Lo.self1 | with_reducible apply Lo.self2)); done) | (with_reducible apply Lo.ne1'; (repeat (first | with_reducible assumption | with_reducible apply Lo.self | with_reducible apply Lo.new | with_reducible apply Lo.set | with_reducible apply Lo.self1 | with_reducible apply Lo.self2)); done)); done))) | exact obj_here rfl)) rfl rfl), ?_⟩)
        | apply dwp_seq
        | apply dwp_region
        | apply ops_nil
        | (apply ops_plain; (· exact rfl))
        | (apply ops_on; (· exact rfl); (· exact rfl); (· (first | with_reducible assumption | with_reducible rfl | decide)))
        | (apply op_call; (· exact rfl); (· exact rfl); (· exact rfl); refine call_table (g := gPeek) rfl (peek_t (⟨_, _, _, rfl, hl.mono s3_above⟩ : Its _ (.sl p l.length c ex) l)) ?_; rw [hE, hX])
        | (apply op_call; (· exact rfl); (· exact rfl); (· exact rfl); refine (own64 _ p c ex l nx now hor (hl.mono s4_above) hn).mono ?_; rintro r H5 ⟨ab5, s5, rfl, p5, c5, e5, rfl, it5, if5⟩; have i5 : ItsF _ H5 (.sl p5 l.length c5 e5) l := ⟨p5, c5, e5, rfl, it5, if5⟩; have F := AfterD.of ab5; have aa5 := F.aa; have ho0 := F.o0; have ho1 := F.o1; have ho2 := F.o2; have ne12 : H.next + 1 ≠ H.next + 1 + 1 := (by omega); have ne21 : H.next + 1 + 1 ≠ H.next + 1 := (by omega))
        | (apply op_pick_t; (· exact rfl); (· exact rfl); (· (first | with_reducible assumption | with_reducible rfl | decide)); (· exact rfl))
        | (apply op_store_at; (· exact rfl); (· exact rfl); (· exact rfl); (· exact obj_here rfl); (· exact rfl); (· exact rfl); (· exact rfl))
        | (apply op_load_at; (· exact rfl); (· exact rfl); (· exact s4_0); (· exact rfl); (· exact rfl))
        | (apply op_load_at; (· exact rfl); (· exact rfl); (· exact s4_3); (· exact rfl); (· exact rfl))
        | (apply op_store_at; (· exact rfl); (· exact rfl); (· exact rfl); (· exact (set_other ne21).trans ho2); (· exact rfl); (· exact rfl); (· exact rfl))
        | (apply op_load_at; (· exact rfl); (· exact rfl); (· repeat (first | with_reducible assumption | (with_reducible apply obj_here; with_reducible rfl) | with_reducible apply obj_set | (with_reducible apply obj_skip_lo; (· ((repeat (first | with_reducible assumption | with_reducible apply Lo.self | with_reducible apply Lo.new | with_reducible apply Lo.set | with_reducible apply Lo.self1 | with_reducible apply Lo.self2)); done))) | (with_reducible apply obj_past; (· ((first | with_reducible assumption | with_reducible apply ne_add1 | with_reducible apply ne_add1' | with_reducible apply ne_add2 | with_reducible apply ne_add2' | with_reducible apply ne_add12 | with_reducible apply ne_add21 | (with_reducible apply Lo.ne; (repeat (first | with_reducible assumption | with_reducible apply Lo.self | with_reducible apply Lo.new | with_reducible apply Lo.set | with_reducible apply Lo.self1 | with_reducible apply Lo.self2)); done) | (with_reducible apply Lo.ne1; (repeat (first | with_reducible assumption | with_reducible apply Lo.self | with_reducible apply Lo.new | with_reducible apply Lo.set | with_reducible apply Lo.self1 | with_reducible apply Lo.self2)); done) | (with_reducible apply Lo.ne'; (repeat (first | with_reducible assumption | with_reducible apply Lo.self | with_reducible apply Lo.new | with_reducible apply Lo.set | with_reducible apply Lo.self1 | with_reducible apply Lo.self2)); done) | (with_reducible apply Lo.ne1'; (repeat (first | with_reducible assumption | with_reducible apply Lo.self | with_reducible apply Lo.new | with_reducible apply Lo.set | with_reducible apply Lo.self1 | with_reducible apply Lo.self2)); done)); done))) | exact obj_here rfl)); (· exact rfl); (· exact rfl))
        | (apply op_store_at; (· exact rfl); (· exact rfl); (· exact rfl); (· repeat (first | with_reducible assumption | (with_reducible apply obj_here; with_reducible rfl) | with_reducible apply obj_set | (with_reducible apply obj_skip_lo; (· ((repeat (first | with_reducible assumption | with_reducible apply Lo.self | with_reducible apply Lo.new | with_reducible apply Lo.set | with_reducible apply Lo.self1 | with_reducible apply Lo.self2)); done))) | (with_reducible apply obj_past; (· ((first | with_reducible assumption | with_reducible apply ne_add1 | with_reducible apply ne_add1' | with_reducible apply ne_add2 | with_reducible apply ne_add2' | with_reducible apply ne_add12 | with_reducible apply ne_add21 | (with_reducible apply Lo.ne; (repeat (first | with_reducible assumption | with_reducible apply Lo.self | with_reducible apply Lo.new | with_reducible apply Lo.set | with_reducible apply Lo.self1 | with_reducible apply Lo.self2)); done) | (with_reducible apply Lo.ne1; (repeat (first | with_reducible assumption | with_reducible apply Lo.self | with_reducible apply Lo.new | with_reducible apply Lo.set | with_reducible apply Lo.self1 | with_reducible apply Lo.self2)); done) | (with_reducible apply Lo.ne'; (repeat (first | with_reducible assumption | with_reducible apply Lo.self | with_reducible apply Lo.new | with_reducible apply Lo.set | with_reducible apply Lo.self1 | with_reducible apply Lo.self2)); done) | (with_reducible apply Lo.ne1'; (repeat (first | with_reducible assumption | with_reducible apply Lo.self | with_reducible apply Lo.new | with_reducible apply Lo.set | with_reducible apply Lo.self1 | with_reducible apply Lo.self2)); done)); done))) | exact obj_here rfl)); (· exact rfl); (· exact rfl); (· exact rfl))
        | (apply op_at; (· exact rfl))
        | (apply dwp_cond_t; (· exact rfl); (· (first | with_reducible assumption | with_reducible rfl | decide)))
        | (apply dwp_cond_f; (· exact rfl); (· (first | with_reducible assumption | with_reducible rfl | decide)))
        | apply dwp_skip
        | apply dwp_ret
        | fail)
      exact step_bad (by unfold stepE; first | (rw [if_neg (by rw [hE]; decide)]; exact hE) | (rw [if_pos hE, if_pos hg])) (by decide) ((aa5.set (Nat.le_succ _) _).set (Nat.le_trans (Nat.le_succ _) (Nat.le_succ _)) _) (((i5.set (show H.next + 1 < H.next + 1 + 1 + 1 + 1 by omega)).set (show H.next + 1 + 1 < H.next + 1 + 1 + 1 + 1 by omega)).older (show H.next ≤ H.next + 1 + 1 + 1 + 1 by omega))
    | false =>
      refine enter rfl Try.func42 rfl Try.ntmps42 rfl ?_
      dsimp only [List.cons_append, List.nil_append, List.length_cons, List.length_nil, List.replicate_succ, List.replicate_zero, Nat.reduceAdd, Nat.reduceSub]
      repeat' (first
        | dsimp only [putD, DV.cells, DH.new_next, DH.set_next, List.length_cons, List.length_nil, Nat.reduceAdd, List.set_cons_zero, List.set_cons_succ, getD_zero, getD_succ, fieldAt_zero, fieldAt_succ, thenD, blockD, retR]
        | (refine ⟨_, resOf_cct (loadD_at rfl (by repeat (first | with_reducible assumption | (with_reducible apply obj_here; with_reducible rfl) | with_reducible apply obj_set | (with_reducible apply obj_skip_lo; (· ((repeat (first | with_reducible assumption | with_reducible apply Lo.self | with_reducible apply Lo.new | with_reducible apply Lo.set | with_reducible apply Lo.self1 | with_reducible apply Lo.self2)); done))) | (with_reducible apply obj_past; (· ((first | with_reducible assumption | with_reducible apply ne_add1 | with_reducible apply ne_add1' | with_reducible apply ne_add2 | with_reducible apply ne_add2' | with_reducible apply ne_add12 | with_reducible apply ne_add21 | (with_reducible apply Lo.ne; (repeat (first | with_reducible assumption | with_reducible apply Lo.self | with_reducible apply Lo.new | with_reducible apply Lo.set | with_reducible apply Lo.self1 | with_reducible apply Lo.self2)); done) | (with_reducible apply Lo.ne1; (repeat (first | with_reducible assumption | with_reducible apply Lo.self | with_reducible apply Lo.new | with_reducible apply Lo.set | with_reducible apply Lo.self1 | with_reducible apply Lo.self2)); done) | (with_reducible apply Lo.ne'; (repeat (first | with_reducible assumption | with_reducible apply Lo.self | with_reducible apply Lo.new | with_reducible apply Lo.set | with_reducible apply Lo.self1 | with_reducible apply Lo.self2)); done) | (with_reducible apply Lo.ne1'; (repeat (first | with_reducible assumption | with_reducible apply Lo.self | with_reducible apply Lo.new | with_reducible apply Lo.set | with_reducible apply Lo.self1 | with_reducible apply Lo.self2)); done)); done))) | exact obj_here rfl)) rfl rfl) (loadD_at rfl (by repeat (first | with_reducible assumption | (with_reducible apply obj_here; with_reducible rfl) | with_reducible apply obj_set | (with_reducible apply obj_skip_lo; (· ((repeat (first | with_reducible assumption | with_reducible apply Lo.self | with_reducible apply Lo.new | with_reducible apply Lo.set | with_reducible apply Lo.self1 | with_reducible apply Lo.self2)); done))) | (with_reducible apply obj_past; (· ((first | with_reducible assumption | with_reducible apply ne_add1 | with_reducible apply ne_add1' | with_reducible apply ne_add2 | with_reducible apply ne_add2' | with_reducible apply ne_add12 | with_reducible apply ne_add21 | (with_reducible apply Lo.ne; (repeat (first | with_reducible assumption | with_reducible apply Lo.self | with_reducible apply Lo.new | with_reducible apply Lo.set | with_reducible apply Lo.self1 | with_reducible apply Lo.self2)); done) | (with_reducible apply Lo.ne1; (repeat (first | with_reducible assumption | with_reducible apply Lo.self | with_reducible apply Lo.new | with_reducible apply Lo.set | with_reducible apply Lo.self1 | with_reducible apply Lo.self2)); done) | (with_reducible apply Lo.ne'; (repeat (first | with_reducible assumption | with_reducible apply Lo.self | with_reducible apply Lo.new | with_reducible apply Lo.set | with_reducible apply Lo.self1 | with_reducible apply Lo.self2)); done) | (with_reducible apply Lo.ne1'; (repeat (first | with_reducible assumption | with_reducible apply Lo.self | with_reducible apply Lo.new | with_reducible apply Lo.set | with_reducible apply Lo.self1 | with_reducible apply Lo.self2)); done)); done))) | exact obj_here rfl)) rfl rfl), ?_⟩)
        | (apply drawp_read; (· (first | exact wanted_plain rfl | (apply wanted_on; (· exact rfl); (· exact rfl); (· (first | with_reducible assumption | with_reducible rfl | decide))))); (· exact rfl); (· exact rfl); (· decide +kernel); (· intro H' h; have h : _ = _ := h; exact opD_load rfl rfl (h.trans (by repeat (first | with_reducible assumption | (with_reducible apply obj_here; with_reducible rfl) | with_reducible apply obj_set | (with_reducible apply obj_skip_lo; (· ((repeat (first | with_reducible assumption | with_reducible apply Lo.self | with_reducible apply Lo.new | with_reducible apply Lo.set | with_reducible apply Lo.self1 | with_reducible apply Lo.self2)); done))) | (with_reducible apply obj_past; (· ((first | with_reducible assumption | with_reducible apply ne_add1 | with_reducible apply ne_add1' | with_reducible apply ne_add2 | with_reducible apply ne_add2' | with_reducible apply ne_add12 | with_reducible apply ne_add21 | (with_reducible apply Lo.ne; (repeat (first | with_reducible assumption | with_reducible apply Lo.self | with_reducible apply Lo.new | with_reducible apply Lo.set | with_reducible apply Lo.self1 | with_reducible apply Lo.self2)); done) | (with_reducible apply Lo.ne1; (repeat (first | with_reducible assumption | with_reducible apply Lo.self | with_reducible apply Lo.new | with_reducible apply Lo.set | with_reducible apply Lo.self1 | with_reducible apply Lo.self2)); done) | (with_reducible apply Lo.ne'; (repeat (first | with_reducible assumption | with_reducible apply Lo.self | with_reducible apply Lo.new | with_reducible apply Lo.set | with_reducible apply Lo.self1 | with_reducible apply Lo.self2)); done) | (with_reducible apply Lo.ne1'; (repeat (first | with_reducible assumption | with_reducible apply Lo.self | with_reducible apply Lo.new | with_reducible apply Lo.set | with_reducible apply Lo.self1 | with_reducible apply Lo.self2)); done)); done))) | exact obj_here rfl))) rfl rfl))
        | (apply drawp_read; (· (first | exact wanted_plain rfl | (apply wanted_on; (· exact rfl); (· exact rfl); (· (first | with_reducible assumption | with_reducible rfl | decide))))); (· exact rfl); (· exact rfl); (· decide +kernel); (· intro H' h; have h : _ ∧ _ := h; exact opD_load rfl rfl (h.1.trans (by repeat (first | with_reducible assumption | (with_reducible apply obj_here; with_reducible rfl) | with_reducible apply obj_set | (with_reducible apply obj_skip_lo; (· ((repeat (first | with_reducible assumption | with_reducible apply Lo.self | with_reducible apply Lo.new | with_reducible apply Lo.set | with_reducible apply Lo.self1 | with_reducible apply Lo.self2)); done))) | (with_reducible apply obj_past; (· ((first | with_reducible assumption | with_reducible apply ne_add1 | with_reducible apply ne_add1' | with_reducible apply ne_add2 | with_reducible apply ne_add2' | with_reducible apply ne_add12 | with_reducible apply ne_add21 | (with_reducible apply Lo.ne; (repeat (first | with_reducible assumption | with_reducible apply Lo.self | with_reducible apply Lo.new | with_reducible apply Lo.set | with_reducible apply Lo.self1 | with_reducible apply Lo.self2)); done) | (with_reducible apply Lo.ne1; (repeat (first | with_reducible assumption | with_reducible apply Lo.self | with_reducible apply Lo.new | with_reducible apply Lo.set | with_reducible apply Lo.self1 | with_reducible apply Lo.self2)); done) | (with_reducible apply Lo.ne'; (repeat (first | with_reducible assumption | with_reducible apply Lo.self | with_reducible apply Lo.new | with_reducible apply Lo.set | with_reducible apply Lo.self1 | with_reducible apply Lo.self2)); done) | (with_reducible apply Lo.ne1'; (repeat (first | with_reducible assumption | with_reducible apply Lo.self | with_reducible apply Lo.new | with_reducible apply Lo.set | with_reducible apply Lo.self1 | with_reducible apply Lo.self2)); done)); done))) | exact obj_here rfl))) rfl rfl))
        | (apply drawp_read; (· (first | exact wanted_plain rfl | (apply wanted_on; (· exact rfl); (· exact rfl); (· (first | with_reducible assumption | with_reducible rfl | decide))))); (· exact rfl); (· exact rfl); (· decide +kernel); (· intro H' h; have h : _ ∧ _ := h; exact opD_load rfl rfl (h.2.trans (by repeat (first | with_reducible assumption | (with_reducible apply obj_here; with_reducible rfl) | with_reducible apply obj_set | (with_reducible apply obj_skip_lo; (· ((repeat (first | with_reducible assumption | with_reducible apply Lo.self | with_reducible apply Lo.new | with_reducible apply Lo.set | with_reducible apply Lo.self1 | with_reducible apply Lo.self2)); done))) | (with_reducible apply obj_past; (· ((first | with_reducible assumption | with_reducible apply ne_add1 | with_reducible apply ne_add1' | with_reducible apply ne_add2 | with_reducible apply ne_add2' | with_reducible apply ne_add12 | with_reducible apply ne_add21 | (with_reducible apply Lo.ne; (repeat (first | with_reducible assumption | with_reducible apply Lo.self | with_reducible apply Lo.new | with_reducible apply Lo.set | with_reducible apply Lo.self1 | with_reducible apply Lo.self2)); done) | (with_reducible apply Lo.ne1; (repeat (first | with_reducible assumption | with_reducible apply Lo.self | with_reducible apply Lo.new | with_reducible apply Lo.set | with_reducible apply Lo.self1 | with_reducible apply Lo.self2)); done) | (with_reducible apply Lo.ne'; (repeat (first | with_reducible assumption | with_reducible apply Lo.self | with_reducible apply Lo.new | with_reducible apply Lo.set | with_reducible apply Lo.self1 | with_reducible apply Lo.self2)); done) | (with_reducible apply Lo.ne1'; (repeat (first | with_reducible assumption | with_reducible apply Lo.self | with_reducible apply Lo.new | with_reducible apply Lo.set | with_reducible apply Lo.self1 | with_reducible apply Lo.self2)); done)); done))) | exact obj_here rfl))) rfl rfl))
        | (apply drawp_move; (· (first | exact wanted_plain rfl | (apply wanted_on; (· exact rfl); (· exact rfl); (· (first | with_reducible assumption | with_reducible rfl | decide))))); (· exact rfl); (· decide +kernel); apply op_store_at; (· exact rfl); (· exact rfl); (· exact rfl); (· repeat (first | with_reducible assumption | (with_reducible apply obj_here; with_reducible rfl) | with_reducible apply obj_set | (with_reducible apply obj_skip_lo; (· ((repeat (first | with_reducible assumption | with_reducible apply Lo.self | with_reducible apply Lo.new | with_reducible apply Lo.set | with_reducible apply Lo.self1 | with_reducible apply Lo.self2)); done))) | (with_reducible apply obj_past; (· ((first | with_reducible assumption | with_reducible apply ne_add1 | with_reducible apply ne_add1' | with_reducible apply ne_add2 | with_reducible apply ne_add2' | with_reducible apply ne_add12 | with_reducible apply ne_add21 | (with_reducible apply Lo.ne; (repeat (first | with_reducible assumption | with_reducible apply Lo.self | with_reducible apply Lo.new | with_reducible apply Lo.set | with_reducible apply Lo.self1 | with_reducible apply Lo.self2)); done) | (with_reducible apply Lo.ne1; (repeat (first | with_reducible assumption | with_reducible apply Lo.self | with_reducible apply Lo.new | with_reducible apply Lo.set | with_reducible apply Lo.self1 | with_reducible apply Lo.self2)); done) | (with_reducible apply Lo.ne'; (repeat (first | with_reducible assumption | with_reducible apply Lo.self | with_reducible apply Lo.new | with_reducible apply Lo.set | with_reducible apply Lo.self1 | with_reducible apply Lo.self2)); done) | (with_reducible apply Lo.ne1'; (repeat (first | with_reducible assumption | with_reducible apply Lo.self | with_reducible apply Lo.new | with_reducible apply Lo.set | with_reducible apply Lo.self1 | with_reducible apply Lo.self2)); done)); done))) | exact obj_here rfl)); (· exact rfl); (· exact rfl); (· exact rfl); refine ⟨set_other n30, ?_⟩)
        | (apply drawp_move; (· (first | exact wanted_plain rfl | (apply wanted_on; (· exact rfl); (· exact rfl); (· (first | with_reducible assumption | with_reducible rfl | decide))))); (· exact rfl); (· decide +kernel); apply op_store_at; (· exact rfl); (· exact rfl); (· exact rfl); (· repeat (first | with_reducible assumption | (with_reducible apply obj_here; with_reducible rfl) | with_reducible apply obj_set | (with_reducible apply obj_skip_lo; (· ((repeat (first | with_reducible assumption | with_reducible apply Lo.self | with_reducible apply Lo.new | with_reducible apply Lo.set | with_reducible apply Lo.self1 | with_reducible apply Lo.self2)); done))) | (with_reducible apply obj_past; (· ((first | with_reducible assumption | with_reducible apply ne_add1 | with_reducible apply ne_add1' | with_reducible apply ne_add2 | with_reducible apply ne_add2' | with_reducible apply ne_add12 | with_reducible apply ne_add21 | (with_reducible apply Lo.ne; (repeat (first | with_reducible assumption | with_reducible apply Lo.self | with_reducible apply Lo.new | with_reducible apply Lo.set | with_reducible apply Lo.self1 | with_reducible apply Lo.self2)); done) | (with_reducible apply Lo.ne1; (repeat (first | with_reducible assumption | with_reducible apply Lo.self | with_reducible apply Lo.new | with_reducible apply Lo.set | with_reducible apply Lo.self1 | with_reducible apply Lo.self2)); done) | (with_reducible apply Lo.ne'; (repeat (first | with_reducible assumption | with_reducible apply Lo.self | with_reducible apply Lo.new | with_reducible apply Lo.set | with_reducible apply Lo.self1 | with_reducible apply Lo.self2)); done) | (with_reducible apply Lo.ne1'; (repeat (first | with_reducible assumption | with_reducible apply Lo.self | with_reducible apply Lo.new | with_reducible apply Lo.set | with_reducible apply Lo.self1 | with_reducible apply Lo.self2)); done)); done))) | exact obj_here rfl)); (· exact rfl); (· exact rfl); (· exact rfl); refine ⟨⟨set_other n01, set_other n31⟩, ?_⟩)
        | apply dwp_seq
        | apply dwp_region
        | apply ops_nil
        | (apply ops_plain; (· exact rfl))
        | (apply ops_on; (· exact rfl); (· exact rfl); (· (first | with_reducible assumption | with_reducible rfl | decide)))
        | (apply op_call; (· exact rfl); (· exact rfl); (· exact rfl); refine call_table (g := gPeek) rfl (peek_t (⟨_, _, _, rfl, hl.mono s3_above⟩ : Its _ (.sl p l.length c ex) l)) ?_; rw [hE, hX])
        | (apply op_call; (· exact rfl); (· exact rfl); (· exact rfl); refine (CallWp.up upK5 (pop_c (⟨_, _, _, rfl, hl.mono s4_above⟩ : Its _ (.sl p l.length c ex) l) hn)).mono ?_; rintro r H6 ⟨ab6, s6, rfl, p6, c6, e6, rfl, it6, if6⟩; rw [hP]; have F := AfterD.of ab6; have aa6 := F.aa; have ho0 := F.o0; have ho1 := F.o1; have ho2 := F.o2; have ho3 := F.o3 _ rfl; have n01 : H.next ≠ H.next + 1 := (by omega); have n02 : H.next ≠ H.next + 1 + 1 := (by omega); have n10 : H.next + 1 ≠ H.next := (by omega); have n12 : H.next + 1 ≠ H.next + 1 + 1 := (by omega); have n20 : H.next + 1 + 1 ≠ H.next := (by omega); have n21 : H.next + 1 + 1 ≠ H.next + 1 := (by omega); have n30 : H.next + 1 + 1 + 1 ≠ H.next := (by omega); have n31 : H.next + 1 + 1 + 1 ≠ H.next + 1 := (by omega))
        | (apply op_pick_t; (· exact rfl); (· exact rfl); (· (first | with_reducible assumption | with_reducible rfl | decide)); (· exact rfl))
        | (apply op_store_at; (· exact rfl); (· exact rfl); (· exact rfl); (· exact obj_here rfl); (· exact rfl); (· exact rfl); (· exact rfl))
        | (apply op_load_at; (· exact rfl); (· exact rfl); (· exact s4_0); (· exact rfl); (· exact rfl))
        | (apply op_load_at; (· exact rfl); (· exact rfl); (· exact s4_3); (· exact rfl); (· exact rfl))
        | (apply op_load_at; (· exact rfl); (· exact rfl); (· repeat (first | with_reducible assumption | (with_reducible apply obj_here; with_reducible rfl) | with_reducible apply obj_set | (with_reducible apply obj_skip_lo; (· ((repeat (first | with_reducible assumption | with_reducible apply Lo.self | with_reducible apply Lo.new | with_reducible apply Lo.set | with_reducible apply Lo.self1 | with_reducible apply Lo.self2)); done))) | (with_reducible apply obj_past; (· ((first | with_reducible assumption | with_reducible apply ne_add1 | with_reducible apply ne_add1' | with_reducible apply ne_add2 | with_reducible apply ne_add2' | with_reducible apply ne_add12 | with_reducible apply ne_add21 | (with_reducible apply Lo.ne; (repeat (first | with_reducible assumption | with_reducible apply Lo.self | with_reducible apply Lo.new | with_reducible apply Lo.set | with_reducible apply Lo.self1 | with_reducible apply Lo.self2)); done) | (with_reducible apply Lo.ne1; (repeat (first | with_reducible assumption | with_reducible apply Lo.self | with_reducible apply Lo.new | with_reducible apply Lo.set | with_reducible apply Lo.self1 | with_reducible apply Lo.self2)); done) | (with_reducible apply Lo.ne'; (repeat (first | with_reducible assumption | with_reducible apply Lo.self | with_reducible apply Lo.new | with_reducible apply Lo.set | with_reducible apply Lo.self1 | with_reducible apply Lo.self2)); done) | (with_reducible apply Lo.ne1'; (repeat (first | with_reducible assumption | with_reducible apply Lo.self | with_reducible apply Lo.new | with_reducible apply Lo.set | with_reducible apply Lo.self1 | with_reducible apply Lo.self2)); done)); done))) | exact obj_here rfl)); (· exact rfl); (· exact rfl))
        | (apply op_store_at; (· exact rfl); (· exact rfl); (· exact rfl); (· repeat (first | with_reducible assumption | (with_reducible apply obj_here; with_reducible rfl) | with_reducible apply obj_set | (with_reducible apply obj_skip_lo; (· ((repeat (first | with_reducible assumption | with_reducible apply Lo.self | with_reducible apply Lo.new | with_reducible apply Lo.set | with_reducible apply Lo.self1 | with_reducible apply Lo.self2)); done))) | (with_reducible apply obj_past; (· ((first | with_reducible assumption | with_reducible apply ne_add1 | with_reducible apply ne_add1' | with_reducible apply ne_add2 | with_reducible apply ne_add2' | with_reducible apply ne_add12 | with_reducible apply ne_add21 | (with_reducible apply Lo.ne; (repeat (first | with_reducible assumption | with_reducible apply Lo.self | with_reducible apply Lo.new | with_reducible apply Lo.set | with_reducible apply Lo.self1 | with_reducible apply Lo.self2)); done) | (with_reducible apply Lo.ne1; (repeat (first | with_reducible assumption | with_reducible apply Lo.self | with_reducible apply Lo.new | with_reducible apply Lo.set | with_reducible apply Lo.self1 | with_reducible apply Lo.self2)); done) | (with_reducible apply Lo.ne'; (repeat (first | with_reducible assumption | with_reducible apply Lo.self | with_reducible apply Lo.new | with_reducible apply Lo.set | with_reducible apply Lo.self1 | with_reducible apply Lo.self2)); done) | (with_reducible apply Lo.ne1'; (repeat (first | with_reducible assumption | with_reducible apply Lo.self | with_reducible apply Lo.new | with_reducible apply Lo.set | with_reducible apply Lo.self1 | with_reducible apply Lo.self2)); done)); done))) | exact obj_here rfl)); (· exact rfl); (· exact rfl); (· exact rfl))
        | (apply op_at; (· exact rfl))
        | refine dwp_drawp (id := 9) _ rfl (fun H' => H'.obj (H.next + 1 + 1 + 1) = DH.obj _ (H.next + 1 + 1 + 1)) rfl ?_
        | refine dwp_drawp (id := 10) _ rfl (fun H' => H'.obj H.next = DH.obj _ H.next ∧ H'.obj (H.next + 1 + 1 + 1) = DH.obj _ (H.next + 1 + 1 + 1)) ⟨rfl, rfl⟩ ?_
        | apply drawp_nil
        | apply tand
        | (apply drawp_pure; (· (first | exact wanted_plain rfl | (apply wanted_on; (· exact rfl); (· exact rfl); (· (first | with_reducible assumption | with_reducible rfl | decide))))); (· exact rfl); (· exact rfl); (· exact rfl))
        | (apply drawp_sync_st (fun _ => True); (· exact rfl); (· (first | exact wanted_plain rfl | (apply wanted_on; (· exact rfl); (· exact rfl); (· (first | with_reducible assumption | with_reducible rfl | decide))))); (· decide +kernel))
        | (apply dwp_cond_t; (· exact rfl); (· (first | with_reducible assumption | with_reducible rfl | decide)))
        | (apply dwp_cond_f; (· exact rfl); (· (first | with_reducible assumption | with_reducible rfl | decide)))
        | apply dwp_skip
        | apply dwp_ret
        | fail)
      have k0 : H.next < H.next + 1 + 1 + 1 + 1 := by omega
      have k1 : H.next + 1 < H.next + 1 + 1 + 1 + 1 := by omega
      have k2 : H.next + 1 + 1 < H.next + 1 + 1 + 1 + 1 := by omega
      exact step_good (by unfold stepE; rw [if_pos hE, hg]; rfl) ((((aa6.set (Nat.le_refl _) _).set (Nat.le_refl _) _).set (Nat.le_succ _) _).set (Nat.le_trans (Nat.le_succ _) (Nat.le_succ _)) _) (((((ItsF.set ⟨p6, c6, e6, rfl, it6, if6⟩ k0).set k0).set k1).set k2).older (Nat.le_of_lt k0))
  · have hX : peekX l nx now hor = zeroI := by unfold peekX; rw [hE]; rfl
    refine enter rfl Try.func42 rfl Try.ntmps42 rfl ?_
    dsimp only [List.cons_append, List.nil_append, List.length_cons, List.length_nil, List.replicate_succ, List.replicate_zero, Nat.reduceAdd, Nat.reduceSub]
    repeat' (first
      | dsimp only [putD, DV.cells, DH.new_next, DH.set_next, List.length_cons, List.length_nil, Nat.reduceAdd, List.set_cons_zero, List.set_cons_succ, getD_zero, getD_succ, fieldAt_zero, fieldAt_succ, thenD, blockD, retR]
      | (refine ⟨_, resOf_cct (loadD_at rfl (by repeat (first | with_reducible assumption | (with_reducible apply obj_here; with_reducible rfl) | with_reducible apply obj_set | (with_reducible apply obj_skip_lo; (· ((repeat (first | with_reducible assumption | with_reducible apply Lo.self | with_reducible apply Lo.new | with_reducible apply Lo.set | with_reducible apply Lo.self1 | with_reducible apply Lo.self2)); done))) | (with_reducible apply obj_past; (· ((first | with_reducible assumption | with_reducible apply ne_add1 | with_reducible apply ne_add1' | with_reducible apply ne_add2 | with_reducible apply ne_add2' | with_reducible apply ne_add12 | with_reducible apply ne_add21 | (with_reducible apply Lo.ne; (repeat (first | with_reducible assumption | with_reducible apply Lo.self | with_reducible apply Lo.new | with_reducible apply Lo.set | with_reducible apply Lo.self1 | with_reducible apply Lo.self2)); done) | (with_reducible apply Lo.ne1; (repeat (first | with_reducible assumption | with_reducible apply Lo.self | with_reducible apply Lo.new | with_reducible apply Lo.set | with_reducible apply Lo.self1 | with_reducible apply Lo.self2)); done) | (with_reducible apply Lo.ne'; (repeat (first | with_reducible assumption | with_reducible apply Lo.self | with_reducible apply Lo.new | with_reducible apply Lo.set | with_reducible apply Lo.self1 | with_reducible apply Lo.self2)); done) | (with_reducible apply Lo.ne1'; (repeat (first | with_reducible assumption | with_reducible apply Lo.self | with_reducible apply Lo.new | with_reducible apply Lo.set | with_reducible apply Lo.self1 | with_reducible apply Lo.self2)); done)); done))) | exact obj_here rfl)) rfl rfl) (loadD_at rfl (by repeat (first | with_reducible assumption | (with_reducible apply obj_here; with_reducible rfl) | with_reducible apply obj_set | (with_reducible apply obj_skip_lo; (· ((repeat (first | with_reducible assumption | with_reducible apply Lo.self | with_reducible apply Lo.new | with_reducible apply Lo.set | with_reducible apply Lo.self1 | with_reducible apply Lo.self2)); done))) | (with_reducible apply obj_past; (· ((first | with_reducible assumption | with_reducible apply ne_add1 | with_reducible apply ne_add1' | with_reducible apply ne_add2 | with_reducible apply ne_add2' | with_reducible apply ne_add12 | with_reducible apply ne_add21 | (with_reducible apply Lo.ne; (repeat (first | with_reducible assumption | with_reducible apply Lo.self | with_reducible apply Lo.new | with_reducible apply Lo.set | with_reducible apply Lo.self1 | with_reducible apply Lo.self2)); done) | (with_reducible apply Lo.ne1; (repeat (first | with_reducible assumption | with_reducible apply Lo.self | with_reducible apply Lo.new | with_reducible apply Lo.set | with_reducible apply Lo.self1 | with_reducible apply Lo.self2)); done) | (with_reducible apply Lo.ne'; (repeat (first | with_reducible assumption | with_reducible apply Lo.self | with_reducible apply Lo.new | with_reducible apply Lo.set | with_reducible apply Lo.self1 | with_reducible apply Lo.self2)); done) | (with_reducible apply Lo.ne1'; (repeat (first | with_reducible assumption | with_reducible apply Lo.self | with_reducible apply Lo.new | with_reducible apply Lo.set | with_reducible apply Lo.self1 | with_reducible apply Lo.self2)); done)); done))) | exact obj_here rfl)) rfl rfl), ?_⟩)
      | apply dwp_seq
      | apply dwp_region
      | apply ops_nil
      | (apply ops_plain; (· exact rfl))
      | (apply ops_off1; (· exact rfl); (· exact rfl); (· (first | with_reducible assumption | with_reducible rfl | decide)))
      | (apply op_call; (· exact rfl); (· exact rfl); (· exact rfl); refine call_table (g := gPeek) rfl (peek_t (⟨_, _, _, rfl, hl.mono s3_above⟩ : Its _ (.sl p l.length c ex) l)) ?_; rw [hE, hX])
      | (apply op_call; (· exact rfl); (· exact rfl); (· exact rfl); refine (own64 _ p c ex l nx now hor (hl.mono s4_above) hn).mono ?_; rintro r H5 ⟨ab5, s5, rfl, p5, c5, e5, rfl, it5, if5⟩; have i5 : ItsF _ H5 (.sl p5 l.length c5 e5) l := ⟨p5, c5, e5, rfl, it5, if5⟩; have F := AfterD.of ab5; have aa5 := F.aa; have ho0 := F.o0; have ho1 := F.o1; have ho2 := F.o2; have ne12 : H.next + 1 ≠ H.next + 1 + 1 := (by omega); have ne21 : H.next + 1 + 1 ≠ H.next + 1 := (by omega))
      | (apply op_pick_f; (· exact rfl); (· exact rfl); (· (first | with_reducible assumption | with_reducible rfl | decide)); (· exact rfl))
      | (apply op_store_at; (· exact rfl); (· exact rfl); (· exact rfl); (· exact obj_here rfl); (· exact rfl); (· exact rfl); (· exact rfl))
      | (apply op_load_at; (· exact rfl); (· exact rfl); (· exact s4_0); (· exact rfl); (· exact rfl))
      | (apply op_store_at; (· exact rfl); (· exact rfl); (· exact rfl); (· exact (set_other ne21).trans ho2); (· exact rfl); (· exact rfl); (· exact rfl))
      | (apply op_load_at; (· exact rfl); (· exact rfl); (· repeat (first | with_reducible assumption | (with_reducible apply obj_here; with_reducible rfl) | with_reducible apply obj_set | (with_reducible apply obj_skip_lo; (· ((repeat (first | with_reducible assumption | with_reducible apply Lo.self | with_reducible apply Lo.new | with_reducible apply Lo.set | with_reducible apply Lo.self1 | with_reducible apply Lo.self2)); done))) | (with_reducible apply obj_past; (· ((first | with_reducible assumption | with_reducible apply ne_add1 | with_reducible apply ne_add1' | with_reducible apply ne_add2 | with_reducible apply ne_add2' | with_reducible apply ne_add12 | with_reducible apply ne_add21 | (with_reducible apply Lo.ne; (repeat (first | with_reducible assumption | with_reducible apply Lo.self | with_reducible apply Lo.new | with_reducible apply Lo.set | with_reducible apply Lo.self1 | with_reducible apply Lo.self2)); done) | (with_reducible apply Lo.ne1; (repeat (first | with_reducible assumption | with_reducible apply Lo.self | with_reducible apply Lo.new | with_reducible apply Lo.set | with_reducible apply Lo.self1 | with_reducible apply Lo.self2)); done) | (with_reducible apply Lo.ne'; (repeat (first | with_reducible assumption | with_reducible apply Lo.self | with_reducible apply Lo.new | with_reducible apply Lo.set | with_reducible apply Lo.self1 | with_reducible apply Lo.self2)); done) | (with_reducible apply Lo.ne1'; (repeat (first | with_reducible assumption | with_reducible apply Lo.self | with_reducible apply Lo.new | with_reducible apply Lo.set | with_reducible apply Lo.self1 | with_reducible apply Lo.self2)); done)); done))) | exact obj_here rfl)); (· exact rfl); (· exact rfl))
      | (apply op_store_at; (· exact rfl); (· exact rfl); (· exact rfl); (· repeat (first | with_reducible assumption | (with_reducible apply obj_here; with_reducible rfl) | with_reducible apply obj_set | (with_reducible apply obj_skip_lo; (· ((repeat (first | with_reducible assumption | with_reducible apply Lo.self | with_reducible apply Lo.new | with_reducible apply Lo.set | with_reducible apply Lo.self1 | with_reducible apply Lo.self2)); done))) | (with_reducible apply obj_past; (· ((first | with_reducible assumption | with_reducible apply ne_add1 | with_reducible apply ne_add1' | with_reducible apply ne_add2 | with_reducible apply ne_add2' | with_reducible apply ne_add12 | with_reducible apply ne_add21 | (with_reducible apply Lo.ne; (repeat (first | with_reducible assumption | with_reducible apply Lo.self | with_reducible apply Lo.new | with_reducible apply Lo.set | with_reducible apply Lo.self1 | with_reducible apply Lo.self2)); done) | (with_reducible apply Lo.ne1; (repeat (first | with_reducible assumption | with_reducible apply Lo.self | with_reducible apply Lo.new | with_reducible apply Lo.set | with_reducible apply Lo.self1 | with_reducible apply Lo.self2)); done) | (with_reducible apply Lo.ne'; (repeat (first | with_reducible assumption | with_reducible apply Lo.self | with_reducible apply Lo.new | with_reducible apply Lo.set | with_reducible apply Lo.self1 | with_reducible apply Lo.self2)); done) | (with_reducible apply Lo.ne1'; (repeat (first | with_reducible assumption | with_reducible apply Lo.self | with_reducible apply Lo.new | with_reducible apply Lo.set | with_reducible apply Lo.self1 | with_reducible apply Lo.self2)); done)); done))) | exact obj_here rfl)); (· exact rfl); (· exact rfl); (· exact rfl))
      | (apply op_at; (· exact rfl))
      | (apply dwp_cond_t; (· exact rfl); (· (first | with_reducible assumption | with_reducible rfl | decide)))
      | (apply dwp_cond_f; (· exact rfl); (· (first | with_reducible assumption | with_reducible rfl | decide)))
      | apply dwp_skip
      | apply dwp_ret
      | fail)
    exact step_bad (by unfold stepE; first | (rw [if_neg (by rw [hE]; decide)]; exact hE) | (rw [if_pos hE, if_pos hg])) (by decide) ((aa5.set (Nat.le_succ _) _).set (Nat.le_trans (Nat.le_succ _) (Nat.le_succ _)) _) (((i5.set (show H.next + 1 < H.next + 1 + 1 + 1 + 1 by omega)).set (show H.next + 1 + 1 < H.next + 1 + 1 + 1 + 1 by omega)).older (show H.next ≤ H.next + 1 + 1 + 1 + 1 by omega))
  · have hX : peekX l nx now hor = zeroI := by unfold peekX; rw [hE]; rfl
    refine enter rfl Try.func42 rfl Try.ntmps42 rfl ?_
    dsimp only [List.cons_append, List.nil_append, List.length_cons, List.length_nil, List.replicate_succ, List.replicate_zero, Nat.reduceAdd, Nat.reduceSub]
    repeat' (first
      | dsimp only [putD, DV.cells, DH.new_next, DH.set_next, List.length_cons, List.length_nil, Nat.reduceAdd, List.set_cons_zero, List.set_cons_succ, getD_zero, getD_succ, fieldAt_zero, fieldAt_succ, thenD, blockD, retR]
      | (refine ⟨_, resOf_cct (loadD_at rfl (by repeat (first | with_reducible assumption | (with_reducible apply obj_here; with_reducible rfl) | with_reducible apply obj_set | (with_reducible apply obj_skip_lo; (· ((repeat (first | with_reducible assumption | with_reducible apply Lo.self | with_reducible apply Lo.new | with_reducible apply Lo.set | with_reducible apply Lo.self1 | with_reducible apply Lo.self2)); done))) | (with_reducible apply obj_past; (· ((first | with_reducible assumption | with_reducible apply ne_add1 | with_reducible apply ne_add1' | with_reducible apply ne_add2 | with_reducible apply ne_add2' | with_reducible apply ne_add12 | with_reducible apply ne_add21 | (with_reducible apply Lo.ne; (repeat (first | with_reducible assumption | with_reducible apply Lo.self | with_reducible apply Lo.new | with_reducible apply Lo.set | with_reducible apply Lo.self1 | with_reducible apply Lo.self2)); done) | (with_reducible apply Lo.ne1; (repeat (first | with_reducible assumption | with_reducible apply Lo.self | with_reducible apply Lo.new | with_reducible apply Lo.set | with_reducible apply Lo.self1 | with_reducible apply Lo.self2)); done) | (with_reducible apply Lo.ne'; (repeat (first | with_reducible assumption | with_reducible apply Lo.self | with_reducible apply Lo.new | with_reducible apply Lo.set | with_reducible apply Lo.self1 | with_reducible apply Lo.self2)); done) | (with_reducible apply Lo.ne1'; (repeat (first | with_reducible assumption | with_reducible apply Lo.self | with_reducible apply Lo.new | with_reducible apply Lo.set | with_reducible apply Lo.self1 | with_reducible apply Lo.self2)); done)); done))) | exact obj_here rfl)) rfl rfl) (loadD_at rfl (by repeat (first | with_reducible assumption | (with_reducible apply obj_here; with_reducible rfl) | with_reducible apply obj_set | (with_reducible apply obj_skip_lo; (· ((repeat (first | with_reducible assumption | with_reducible apply Lo.self | with_reducible apply Lo.new | with_reducible apply Lo.set | with_reducible apply Lo.self1 | with_reducible apply Lo.self2)); done))) | (with_reducible apply obj_past; (· ((first | with_reducible assumption | with_reducible apply ne_add1 | with_reducible apply ne_add1' | with_reducible apply ne_add2 | with_reducible apply ne_add2' | with_reducible apply ne_add12 | with_reducible apply ne_add21 | (with_reducible apply Lo.ne; (repeat (first | with_reducible assumption | with_reducible apply Lo.self | with_reducible apply Lo.new | with_reducible apply Lo.set | with_reducible apply Lo.self1 | with_reducible apply Lo.self2)); done) | (with_reducible apply Lo.ne1; (repeat (first | with_reducible assumption | with_reducible apply Lo.self | with_reducible apply Lo.new | with_reducible apply Lo.set | with_reducible apply Lo.self1 | with_reducible apply Lo.self2)); done) | (with_reducible apply Lo.ne'; (repeat (first | with_reducible assumption | with_reducible apply Lo.self | with_reducible apply Lo.new | with_reducible apply Lo.set | with_reducible apply Lo.self1 | with_reducible apply Lo.self2)); done) | (with_reducible apply Lo.ne1'; (repeat (first | with_reducible assumption | with_reducible apply Lo.self | with_reducible apply Lo.new | with_reducible apply Lo.set | with_reducible apply Lo.self1 | with_reducible apply Lo.self2)); done)); done))) | exact obj_here rfl)) rfl rfl), ?_⟩)
      | apply dwp_seq
      | apply dwp_region
      | apply ops_nil
      | (apply ops_plain; (· exact rfl))
      | (apply ops_off1; (· exact rfl); (· exact rfl); (· (first | with_reducible assumption | with_reducible rfl | decide)))
      | (apply op_call; (· exact rfl); (· exact rfl); (· exact rfl); refine call_table (g := gPeek) rfl (peek_t (⟨_, _, _, rfl, hl.mono s3_above⟩ : Its _ (.sl p l.length c ex) l)) ?_; rw [hE, hX])
      | (apply op_call; (· exact rfl); (· exact rfl); (· exact rfl); refine (own64 _ p c ex l nx now hor (hl.mono s4_above) hn).mono ?_; rintro r H5 ⟨ab5, s5, rfl, p5, c5, e5, rfl, it5, if5⟩; have i5 : ItsF _ H5 (.sl p5 l.length c5 e5) l := ⟨p5, c5, e5, rfl, it5, if5⟩; have F := AfterD.of ab5; have aa5 := F.aa; have ho0 := F.o0; have ho1 := F.o1; have ho2 := F.o2; have ne12 : H.next + 1 ≠ H.next + 1 + 1 := (by omega); have ne21 : H.next + 1 + 1 ≠ H.next + 1 := (by omega))
      | (apply op_pick_f; (· exact rfl); (· exact rfl); (· (first | with_reducible assumption | with_reducible rfl | decide)); (· exact rfl))
      | (apply op_store_at; (· exact rfl); (· exact rfl); (· exact rfl); (· exact obj_here rfl); (· exact rfl); (· exact rfl); (· exact rfl))
      | (apply op_load_at; (· exact rfl); (· exact rfl); (· exact s4_0); (· exact rfl); (· exact rfl))
      | (apply op_store_at; (· exact rfl); (· exact rfl); (· exact rfl); (· exact (set_other ne21).trans ho2); (· exact rfl); (· exact rfl); (· exact rfl))
      | (apply op_load_at; (· exact rfl); (· exact rfl); (· repeat (first | with_reducible assumption | (with_reducible apply obj_here; with_reducible rfl) | with_reducible apply obj_set | (with_reducible apply obj_skip_lo; (· ((repeat (first | with_reducible assumption | with_reducible apply Lo.self | with_reducible apply Lo.new | with_reducible apply Lo.set | with_reducible apply Lo.self1 | with_reducible apply Lo.self2)); done))) | (with_reducible apply obj_past; (· ((first | with_reducible assumption | with_reducible apply ne_add1 | with_reducible apply ne_add1' | with_reducible apply ne_add2 | with_reducible apply ne_add2' | with_reducible apply ne_add12 | with_reducible apply ne_add21 | (with_reducible apply Lo.ne; (repeat (first | with_reducible assumption | with_reducible apply Lo.self | with_reducible apply Lo.new | with_reducible apply Lo.set | with_reducible apply Lo.self1 | with_reducible apply Lo.self2)); done) | (with_reducible apply Lo.ne1; (repeat (first | with_reducible assumption | with_reducible apply Lo.self | with_reducible apply Lo.new | with_reducible apply Lo.set | with_reducible apply Lo.self1 | with_reducible apply Lo.self2)); done) | (with_reducible apply Lo.ne'; (repeat (first | with_reducible assumption | with_reducible apply Lo.self | with_reducible apply Lo.new | with_reducible apply Lo.set | with_reducible apply Lo.self1 | with_reducible apply Lo.self2)); done) | (with_reducible apply Lo.ne1'; (repeat (first | with_reducible assumption | with_reducible apply Lo.self | with_reducible apply Lo.new | with_reducible apply Lo.set | with_reducible apply Lo.self1 | with_reducible apply Lo.self2)); done)); done))) | exact obj_here rfl)); (· exact rfl); (· exact rfl))
      | (apply op_store_at; (· exact rfl); (· exact rfl); (· exact rfl); (· repeat (first | with_reducible assumption | (with_reducible apply obj_here; with_reducible rfl) | with_reducible apply obj_set | (with_reducible apply obj_skip_lo; (· ((repeat (first | with_reducible assumption | with_reducible apply Lo.self | with_reducible apply Lo.new | with_reducible apply Lo.set | with_reducible apply Lo.self1 | with_reducible apply Lo.self2)); done))) | (with_reducible apply obj_past; (· ((first | with_reducible assumption | with_reducible apply ne_add1 | with_reducible apply ne_add1' | with_reducible apply ne_add2 | with_reducible apply ne_add2' | with_reducible apply ne_add12 | with_reducible apply ne_add21 | (with_reducible apply Lo.ne; (repeat (first | with_reducible assumption | with_reducible apply Lo.self | with_reducible apply Lo.new | with_reducible apply Lo.set | with_reducible apply Lo.self1 | with_reducible apply Lo.self2)); done) | (with_reducible apply Lo.ne1; (repeat (first | with_reducible assumption | with_reducible apply Lo.self | with_reducible apply Lo.new | with_reducible apply Lo.set | with_reducible apply Lo.self1 | with_reducible apply Lo.self2)); done) | (with_reducible apply Lo.ne'; (repeat (first | with_reducible assumption | with_reducible apply Lo.self | with_reducible apply Lo.new | with_reducible apply Lo.set | with_reducible apply Lo.self1 | with_reducible apply Lo.self2)); done) | (with_reducible apply Lo.ne1'; (repeat (first | with_reducible assumption | with_reducible apply Lo.self | with_reducible apply Lo.new | with_reducible apply Lo.set | with_reducible apply Lo.self1 | with_reducible apply Lo.self2)); done)); done))) | exact obj_here rfl)); (· exact rfl); (· exact rfl); (· exact rfl))
      | (apply op_at; (· exact rfl))
      | (apply dwp_cond_t; (· exact rfl); (· (first | with_reducible assumption | with_reducible rfl | decide)))
      | (apply dwp_cond_f; (· exact rfl); (· (first | with_reducible assumption | with_reducible rfl | decide)))
      | apply dwp_skip
      | apply dwp_ret
      | fail)
    exact step_bad (by unfold stepE; first | (rw [if_neg (by rw [hE]; decide)]; exact hE) | (rw [if_pos hE, if_pos hg])) (by decide) ((aa5.set (Nat.le_succ _) _).set (Nat.le_trans (Nat.le_succ _) (Nat.le_succ _)) _) (((i5.set (show H.next + 1 < H.next + 1 + 1 + 1 + 1 by omega)).set (show H.next + 1 + 1 < H.next + 1 + 1 + 1 + 1 by omega)).older (show H.next ≤ H.next + 1 + 1 + 1 + 1 by omega))
end
end Go.Det.Q

/- Kernels: the reference's Step. -/
namespace Go.Det.Q
open Go Go.Det Go.Proofs
set_option maxRecDepth 4000
set_option maxHeartbeats 8000000
set_option linter.unusedVariables false
set_option linter.unusedSimpArgs false
structure AfterE (H H1 : DH) (a b d : DObj) : Prop where
  aa : Above H H1
  o0 : H1.obj H.next = some a
  o1 : H1.obj (H.next + 1) = some b
  o2 : H1.obj (H.next + 1 + 1) = some d
  lt : H.next + 1 + 1 < H1.next
theorem AfterE.of {H H1 : DH} {a b d : DObj} (ab : Above (((H.new a).new b).new d) H1) : AfterE H H1 a b d where
  aa := s3_above.trans ab
  o0 := ab.obj (show H.next < H.next + 1 + 1 + 1 by omega) (by rw [obj_new_lt (show H.next < H.next + 1 + 1 by omega), obj_new_lt (show H.next < H.next + 1 by omega)]; exact obj_here rfl)
  o1 := ab.obj (show H.next + 1 < H.next + 1 + 1 + 1 by omega) (by rw [obj_new_lt (show H.next + 1 < H.next + 1 + 1 by omega)]; exact obj_here rfl)
  o2 := ab.obj (show H.next + 1 + 1 < H.next + 1 + 1 + 1 by omega) (obj_here rfl)
  lt := Nat.lt_of_lt_of_le (show H.next + 1 + 1 < H.next + 1 + 1 + 1 by omega) ab.le
structure AfterF (H H1 H6 : DH) (a b d : DObj) (o' o2' : Option DObj) : Prop where
  aa : Above H H6
  oc : ∀ x, o' = some x → H6.obj H1.next = some x
  od : ∀ x, o2' = some x → H6.obj (H1.next + 1) = some x
  o1 : H6.obj (H.next + 1) = some b
  o2 : H6.obj (H.next + 1 + 1) = some d
  lt : H1.next + 1 < H6.next
theorem AfterF.of {H H1 H6 : DH} {a b d o z : DObj} {o' o2' : Option DObj} (F : AfterE H H1 a b d) (ab : Above ((((H1.new o).set H1.next o').new z).set (H1.next + 1) o2') H6) : AfterF H H1 H6 a b d o' o2' where
  aa := (((F.aa.trans aboveQ).new _).set (Nat.le_trans F.aa.le (Nat.le_succ _)) _).trans ab
  oc := fun x hx => ab.obj (show H1.next < H1.next + 1 + 1 by omega) (by rw [set_other (show H1.next ≠ H1.next + 1 by omega), obj_new_lt (show H1.next < H1.next + 1 by omega)]; exact oc4.trans hx)
  od := fun x hx => ab.obj (show H1.next + 1 < H1.next + 1 + 1 by omega) (obj_setA.trans hx)
  o1 := ab.obj (show H.next + 1 < H1.next + 1 + 1 by have := F.lt; omega) (by have := F.lt; rw [set_other (show H.next + 1 ≠ H1.next + 1 by omega), obj_new_lt (show H.next + 1 < H1.next + 1 by omega), set_other (show H.next + 1 ≠ H1.next by omega), obj_new_lt (show H.next + 1 < H1.next by omega)]; exact F.o1)
  o2 := ab.obj (show H.next + 1 + 1 < H1.next + 1 + 1 by have := F.lt; omega) (by have := F.lt; rw [set_other (show H.next + 1 + 1 ≠ H1.next + 1 by omega), obj_new_lt (show H.next + 1 + 1 < H1.next + 1 by omega), set_other (show H.next + 1 + 1 ≠ H1.next by omega), obj_new_lt (show H.next + 1 + 1 < H1.next by omega)]; exact F.o2)
  lt := Nat.lt_of_lt_of_le (show H1.next + 1 < H1.next + 1 + 1 by omega) ab.le
section
variable (H : DH) (p : Option (Nat × Nat × Nat)) (c : Nat) (ex : Bool) (l : List Item) (nx now hor : Int) (hl : It H p c ex l) (hn : l.length ≤ 1000000)
include hl hn
end
end Go.Det.Q

/- Arguments. -/
namespace Go.Det.Q
open Go Go.Det Go.Proofs
set_option maxRecDepth 4000
set_option linter.unusedVariables false
set_option linter.unusedSimpArgs false
def i64ok (x : Int) : Prop := -9223372036854775808 ≤ x ∧ x ≤ 9223372036854775807
def u64ok (x : Int) : Prop := 0 ≤ x ∧ x ≤ 18446744073709551615
structure Item.ok (x : Item) : Prop where
  a : i64ok x.a
  c : i64ok x.c
  s : u64ok x.s
  w : i64ok x.w
  h : i64ok x.h
  n : u64ok x.n
end Go.Det.Q

/- Kernels: arguments; what both texts come to is alike. -/
namespace Go.Det.Q
open Go Go.Det Go.Proofs
set_option maxRecDepth 4000
set_option maxHeartbeats 8000000
set_option linter.unusedVariables false
set_option linter.unusedSimpArgs false
theorem len4 {cs : List DV} (h : cs.length = 4) : ∃ a b c d, cs = [a, b, c, d] := by
  match cs, h with
  | [a, b, c, d], _ => exact ⟨a, b, c, d, rfl⟩
theorem sorted_heap {l : List Item} (h : Sorted l) : Heap l := by
  intro i h0 hi
  unfold okAt
  have hj : (i - 1) / 2 < l.length := by omega
  have e1 : g l i = l[i] := g_of (List.getElem?_eq_getElem hi)
  have e2 : g l ((i - 1) / 2) = l[(i - 1) / 2] := g_of (List.getElem?_eq_getElem hj)
  rw [e1, e2]
  exact (List.pairwise_iff_getElem.mp h) _ _ hj hi (by omega)
/-! ### Post -/
def pN (l : List Item) (nx now hor a k : Int) : Int := if postE l nx now hor a k = 0 then nx + 1 else nx
def pQ (l : List Item) (nx now hor a k : Int) : Int := if postE l nx now hor a k = 0 then nx else 0
def pL (l good : List Item) (nx now hor a k : Int) : List Item := if postE l nx now hor a k = 0 then good else l
theorem PostS.out {H H' : DH} {l good : List Item} {nx now hor a k : Int} {r : DV} (h : PostS H l good nx now hor a k r H') :
    Above H H' ∧ ∃ s', r = .tuple [.agg [s', .int .u64 (pN l nx now hor a k), .int .i64 now, .int .i64 hor], .int .u64 (pQ l nx now hor a k), .int .i64 (postE l nx now hor a k)] ∧ ItsF H H' s' (pL l good nx now hor a k) := h
theorem post_zero {l : List Item} {nx now hor a k : Int} (h : postE l nx now hor a k = 0) : kOk l nx now hor = true ∧ pushE l = 0 := by
  unfold postE at h
  split at h
  · rename_i hk
    refine ⟨hk, ?_⟩
    split at h
    · cases h
    · split at h
      · cases h
      · split at h
        · cases h
        · exact h
  · cases h
/-! ### Cancel -/
def cL (l good : List Item) (nx now hor q : Int) : List Item := if cancelE l nx now hor q = 0 then good else l
theorem CancelS.out {H H' : DH} {l good : List Item} {nx now hor q : Int} {r : DV} (h : CancelS H l good nx now hor q r H') :
    Above H H' ∧ ∃ s', r = .tuple [.agg [s', .int .u64 nx, .int .i64 now, .int .i64 hor], .int .i64 (cancelE l nx now hor q)] ∧ ItsF H H' s' (cL l good nx now hor q) := h
theorem cancel_zero {l : List Item} {nx now hor q : Int} (h : cancelE l nx now hor q = 0) : takeE l q = 0 := by
  unfold cancelE at h
  split at h
  · exact h
  · cases h
/-! ### Step -/
def sW (l : List Item) (nx now hor : Int) : Int := if stepE l nx now hor = 0 then (g l 0).a else now
def sX (l : List Item) (nx now hor : Int) : Item := if stepE l nx now hor = 0 then g l 0 else zeroI
def sL (l good : List Item) (nx now hor : Int) : List Item := if stepE l nx now hor = 0 then good else l
theorem StepS.out {H H' : DH} {l good : List Item} {nx now hor : Int} {r : DV} (h : StepS H l good nx now hor r H') :
    Above H H' ∧ ∃ s', r = .tuple [.agg [s', .int .u64 nx, .int .i64 (sW l nx now hor), .int .i64 hor], .agg (sX l nx now hor).cells, .int .i64 (stepE l nx now hor)] ∧ ItsF H H' s' (sL l good nx now hor) := h
theorem step_zero {l : List Item} {nx now hor : Int} (h : stepE l nx now hor = 0) : popE l = 0 := by
  unfold stepE at h
  split at h
  · rename_i he
    obtain ⟨hk, hne⟩ := peek_ok he
    exact popE_ok (kOk_check hk) hne
  · rename_i he; exact absurd h he
end Go.Det.Q

/- Boxes: what a function's variables that live in the heap hold, and what is known of the heap besides. -/
namespace Go.Det
set_option linter.unusedVariables false
set_option linter.unusedSimpArgs false
/-- What hangs on the places S alone. -/
def Stay (S : Nat → Prop) (p : DH → Prop) : Prop := ∀ H H' : DH, H.next ≤ H'.next → (∀ l, S l → H'.obj l = H.obj l) → p H → p H'
structure Fact (H : DH) (bs : List (Nat × DObj)) (f : DH → Prop) : Prop where
  ex : ∃ S, Stay S f ∧ f H ∧ (∀ l, S l → l < H.next) ∧ ∀ b ∈ bs, ¬ S b.1
/-- Behind a heap A there are boxes, and things known that hang on no box. -/
structure Bx (A H : DH) (bs : List (Nat × DObj)) (fs : List (DH → Prop)) : Prop where
  ab : Above A H
  obj : ∀ b ∈ bs, A.next ≤ b.1 ∧ b.1 < H.next ∧ H.obj b.1 = some b.2
  nd : (bs.map (·.1)).Nodup
  fact : ∀ f ∈ fs, Fact H bs f
inductive At (b : Nat) (o : DObj) : List (Nat × DObj) → Prop where
  | here {l} : At b o ((b, o) :: l)
  | there {x l} (h : At b o l) : At b o (x :: l)
theorem At.mem {b : Nat} {o : DObj} {l : List (Nat × DObj)} (h : At b o l) : (b, o) ∈ l := by
  induction h with
  | here => simp
  | there _ ih => simp [ih]
inductive Upd (b : Nat) (o o' : DObj) : List (Nat × DObj) → List (Nat × DObj) → Prop where
  | here {l} : Upd b o o' ((b, o) :: l) ((b, o') :: l)
  | there {x l l'} (h : Upd b o o' l l') : Upd b o o' (x :: l) (x :: l')
theorem Upd.at {b : Nat} {o o' : DObj} {l l' : List (Nat × DObj)} (h : Upd b o o' l l') : At b o l := by
  induction h with
  | here => exact .here
  | there _ ih => exact .there ih
theorem Upd.map {b : Nat} {o o' : DObj} {l l' : List (Nat × DObj)} (h : Upd b o o' l l') : l'.map (·.1) = l.map (·.1) := by
  induction h with
  | here => rfl
  | there _ ih => simp [ih]
theorem Upd.mem {b : Nat} {o o' : DObj} {l l' : List (Nat × DObj)} (h : Upd b o o' l l') (nd : (l.map (·.1)).Nodup) : ∀ x ∈ l', x = (b, o') ∨ (x ∈ l ∧ x.1 ≠ b) := by
  induction h with
  | here =>
    intro x hx
    simp only [List.map_cons, List.nodup_cons, List.mem_map, not_exists, not_and] at nd
    rcases List.mem_cons.mp hx with rfl | hx
    · exact .inl rfl
    · exact .inr ⟨List.mem_cons_of_mem _ hx, nd.1 x hx⟩
  | @there y l l' h ih =>
    intro x hx
    simp only [List.map_cons, List.nodup_cons, List.mem_map, not_exists, not_and] at nd
    rcases List.mem_cons.mp hx with rfl | hx
    · exact .inr ⟨List.mem_cons_self, fun e => nd.1 _ h.at.mem e.symm⟩
    · rcases ih nd.2 x hx with h1 | ⟨h1, h2⟩
      · exact .inl h1
      · exact .inr ⟨List.mem_cons_of_mem _ h1, h2⟩
inductive InF (f : DH → Prop) : List (DH → Prop) → Prop where
  | here {l} : InF f (f :: l)
  | there {x l} (h : InF f l) : InF f (x :: l)
theorem InF.mem {f : DH → Prop} {l : List (DH → Prop)} (h : InF f l) : f ∈ l := by
  induction h with
  | here => simp
  | there _ ih => simp [ih]
section
variable {A H H' : DH} {bs bs' : List (Nat × DObj)} {fs : List (DH → Prop)}
theorem Bx.get (h : Bx A H bs fs) {b : Nat} {o : DObj} (k : At b o bs) : H.obj b = some o := (h.obj _ k.mem).2.2
theorem Bx.has (h : Bx A H bs fs) {f : DH → Prop} (k : InF f fs) : f H := by
  obtain ⟨S, _, h2, _⟩ := (h.fact f k.mem).ex
  exact h2
theorem Bx.init (h : ∀ f ∈ fs, Fact A [] f) : Bx A A [] fs := ⟨Above.refl A, fun b hb => (by cases hb), List.Pairwise.nil, h⟩
theorem Fact.grow {f : DH → Prop} (h : Fact H bs f) (k : Above H H') : Fact H' bs f := by
  obtain ⟨S, h1, h2, h3, h4⟩ := h.ex
  exact ⟨S, h1, h1 H H' k.le (fun l hl => k.same l (h3 l hl)) h2, fun l hl => Nat.lt_of_lt_of_le (h3 l hl) k.le, h4⟩
theorem Bx.grow (h : Bx A H bs fs) (k : Above H H') : Bx A H' bs fs :=
  ⟨h.ab.trans k, fun b hb => ⟨(h.obj b hb).1, Nat.lt_of_lt_of_le (h.obj b hb).2.1 k.le, k.obj (h.obj b hb).2.1 (h.obj b hb).2.2⟩, h.nd, fun f hf => (h.fact f hf).grow k⟩
theorem Bx.box (h : Bx A H bs fs) (o : DObj) : Bx A (H.new o) ((H.next, o) :: bs) fs := by
  have h' := h.grow ((Above.refl H).new o)
  refine ⟨h'.ab, fun b hb => ?_, ?_, fun f hf => ?_⟩
  · rcases List.mem_cons.mp hb with rfl | hb
    · exact ⟨h.ab.le, Nat.lt_succ_self _, obj_here rfl⟩
    · exact h'.obj b hb
  · simp only [List.map_cons, List.nodup_cons, List.mem_map, not_exists, not_and]
    refine ⟨fun x hx e => ?_, h.nd⟩
    have := (h.obj x hx).2.1
    omega
  · obtain ⟨S, h1, h2, h3, h4⟩ := (h.fact f hf).ex
    refine ⟨S, h1, h1 H _ (Nat.le_succ _) (fun l hl => obj_skip (Nat.ne_of_lt (h3 l hl)) rfl) h2, fun l hl => Nat.lt_succ_of_lt (h3 l hl), fun b hb => ?_⟩
    rcases List.mem_cons.mp hb with rfl | hb
    · exact fun hs => Nat.lt_irrefl _ (h3 _ hs)
    · exact h4 b hb
theorem Bx.put (h : Bx A H bs fs) {b : Nat} {o o' : DObj} (k : Upd b o o' bs bs') : Bx A (H.set b (some o')) bs' fs := by
  have hb := h.obj _ k.at.mem
  refine ⟨h.ab.set hb.1 _, fun x hx => ?_, by rw [k.map]; exact h.nd, fun f hf => ?_⟩
  · rcases k.mem h.nd x hx with rfl | ⟨h1, h2⟩
    · exact ⟨hb.1, hb.2.1, obj_set⟩
    · obtain ⟨h3, h4, h5⟩ := h.obj x h1
      exact ⟨h3, h4, obj_past h2 h5⟩
  · obtain ⟨S, h1, h2, h3, h4⟩ := (h.fact f hf).ex
    have hn := h4 _ k.at.mem
    refine ⟨S, h1, h1 H _ (Nat.le_refl _) (fun l hl => obj_past (fun e => hn (e ▸ hl)) rfl) h2, h3, fun x hx => ?_⟩
    rcases k.mem h.nd x hx with rfl | ⟨h5, _⟩
    · exact hn
    · exact h4 x h5
/-- Something more is known, of places that were made since. -/
theorem Bx.know (h : Bx A H bs fs) (k : Above H H') {f : DH → Prop} (S : Nat → Prop) (h1 : Stay S f) (h2 : f H') (h3 : ∀ l, S l → H.next ≤ l ∧ l < H'.next) : Bx A H' bs (f :: fs) := by
  have h' := h.grow k
  refine ⟨h'.ab, h'.obj, h'.nd, fun g hg => ?_⟩
  rcases List.mem_cons.mp hg with rfl | hg
  · exact ⟨S, h1, h2, fun l hl => (h3 l hl).2, fun b hb hs => by have := (h.obj b hb).2.1; have := (h3 _ hs).1; omega⟩
  · exact h'.fact g hg
/-- What is known no more. -/
theorem Bx.less {fs' : List (DH → Prop)} (h : Bx A H bs fs) (k : ∀ f ∈ fs', f ∈ fs) : Bx A H bs fs' := ⟨h.ab, h.obj, h.nd, fun f hf => h.fact f (k f hf)⟩
theorem Bx.fewer (h : Bx A H bs fs) (k : ∀ b ∈ bs', b ∈ bs) (nd : (bs'.map (·.1)).Nodup) : Bx A H bs' fs :=
  ⟨h.ab, fun b hb => h.obj b (k b hb), nd, fun f hf => by
    obtain ⟨S, h1, h2, h3, h4⟩ := (h.fact f hf).ex
    exact ⟨S, h1, h2, h3, fun b hb => h4 b (k b hb)⟩⟩
theorem Bx.sub (h : Bx A H bs fs) (k : bs'.Sublist bs) : Bx A H bs' fs := h.fewer (fun b hb => k.subset hb) (List.Nodup.sublist (k.map _) h.nd)
theorem Bx.one {f : DH → Prop} (h : Bx A H bs (f :: fs)) : Bx A H bs [f] := h.less fun x hx => by
  rw [List.mem_singleton] at hx; subst hx; exact List.mem_cons_self
theorem Bx.two {f g : DH → Prop} (h : Bx A H bs (f :: g :: fs)) : Bx A H bs [f, g] := h.less fun x hx => by
  simp only [List.mem_cons, List.not_mem_nil, or_false] at hx ⊢
  rcases hx with rfl | rfl
  · exact .inl rfl
  · exact .inr (.inl rfl)
theorem Bx.drop1 {x : Nat × DObj} (h : Bx A H (x :: bs) fs) : Bx A H bs fs := h.sub (List.sublist_cons_self _ _)
section
variable {P : Program} {X : Ext} {o : Oper} {env : List DV} {K : DV → DH → Prop}
theorem bx_alloc {t : TypeId} {z : DV} {cs : List DV} {n : Nat} (ho : o.op = .alloc t) (hz : zeroT P t = some z) (hc : z.cells = cs) (h1 : cs.all DV.one = true) (hn : cs.length = n) (hB : Bx A H bs fs)
    (hk : ∀ b H', Bx A H' ((b, .rows false n [cs]) :: bs) fs → K (.ptr (some (b, 0, 0))) H') : OpWp P X o env H K := by
  subst hc hn
  refine op_at (v := .ptr (some (H.next, 0, 0))) (H' := H.new (.rows false z.cells.length [z.cells])) ?_ (hk _ _ (hB.box _))
  simp only [opD, ho, mover, moveD, hz, newVarD, h1, if_true]
/-- A load where the row is at place 0. -/
theorem bx_load0 {t : TypeId} {a : Operand} {b q sz : Nat} {ro : Bool} {r : List DV} {v : DV} (ho : o.op = .load t a) (hp : evalO env a = some (.ptr (some (b, 0, q)))) (hB : Bx A H bs fs) (hm : At b (.rows ro sz [r]) bs)
    (hv : partD P t r q = some v) (hk : K v H) : OpWp P X o env H K := op_load_at ho hp (hB.get hm) rfl hv hk
/-- A whole box is written. -/
theorem bx_store0 {t : TypeId} {a x : Operand} {b sz n : Nat} {r cs : List DV} {v : DV} (ho : o.op = .store t a x) (hp : evalO env a = some (.ptr (some (b, 0, 0)))) (hx : evalO env x = some v) (hB : Bx A H bs fs) (hc : v.cells = cs)
    (hu : Upd b (.rows false sz [r]) (.rows false sz [cs]) bs bs') (hl : r.length = cs.length) (h1 : cs.all DV.one = true) (hn : sizeT P t = some n) (hcn : cs.length = n) (hk : ∀ H', Bx A H' bs' fs → K undefD H') : OpWp P X o env H K := by
  subst hc
  refine op_store_at (rs' := [v.cells]) ho hp hx (hB.get hu.at) ?_ hn hcn (hk _ (hB.put hu))
  simp only [setRow, List.getElem?_cons_zero, h1, and_true, Nat.zero_add, hl, Nat.le_refl, if_true, List.set_cons_zero]
  rw [splice, Nat.zero_add, ← hl, List.drop_length, List.append_nil, List.take_zero, List.nil_append]
/-- A load of what lay there from the beginning. -/
theorem bx_loadA {t : TypeId} {a : Operand} {b i q sz : Nat} {ro : Bool} {rs : List (List DV)} {r : List DV} {v : DV} (ho : o.op = .load t a) (hp : evalO env a = some (.ptr (some (b, i, q)))) (hB : Bx A H bs fs) (hl : b < A.next) (hm : A.obj b = some (.rows ro sz rs))
    (hr : rs[i]? = some r) (hv : partD P t r q = some v) (hk : K v H) : OpWp P X o env H K := op_load_at ho hp (hB.ab.obj hl hm) hr hv hk
end
end
end Go.Det

/- Kernels in boxes; what calls come to. -/
namespace Go.Det.Q
open Go Go.Det Go.Proofs
set_option maxRecDepth 4000
set_option maxHeartbeats 8000000
set_option linter.unusedVariables false
set_option linter.unusedSimpArgs false
/-- A slice holds these things. -/
def Is (s : DV) (l : List Item) : DH → Prop := fun H => Its H s l
theorem sl_lt {H : DH} {z loc i w : Nat} {R : List (List DV)} (h : Sl H z R (some (loc, i, w))) : loc < H.next := by cases h; assumption
theorem is_stay (s : DV) (l : List Item) {p : Option (Nat × Nat × Nat)} {n c : Nat} {ex : Bool} (e : s = .sl p n c ex) : Stay (fun loc => ∃ i z, p = some (loc, i, z)) (Is s l) := by
  intro H H' hle hob h
  obtain ⟨p', c', ex', e', hi⟩ := h
  rw [e] at e'
  cases e'
  refine ⟨p, c, ex, e, ?_, hi.nil, hi.len, hi.cap⟩
  have hs := hi.sl
  cases hs with
  | nil a => exact .nil a
  | «at» a1 a2 a3 a4 => exact .at (Nat.lt_of_lt_of_le a1 hle) ((hob _ ⟨_, _, rfl⟩).trans a2) a3 a4
/-- A slice. -/
structure Sv where
  p : Option (Nat × Nat × Nat)
  n : Nat
  c : Nat
  ex : Bool
def Sv.dv (s : Sv) : DV := .sl s.p s.n s.c s.ex
def nilS : Sv := ⟨none, 0, 0, true⟩
theorem Sv.cells (s : Sv) : DV.cells s.dv = [s.dv] := rfl
theorem its_sv {H : DH} {s : DV} {l : List Item} (h : Its H s l) : ∃ v : Sv, s = v.dv := by
  obtain ⟨p, c, ex, e, _⟩ := h
  exact ⟨⟨p, _, c, ex⟩, e⟩
section
variable {A H H' : DH} {bs : List (Nat × DObj)} {fs : List (DH → Prop)} {s s2 : DV} {l : List Item}
theorem is_know (hB : Bx A H bs fs) (k : Above H H') (h : ItsF H H' s l) : Bx A H' bs (Is s l :: fs) := by
  obtain ⟨p, c, ex, e, hi, hf⟩ := h
  refine hB.know k _ (is_stay s l e) ⟨p, c, ex, e, hi⟩ ?_
  rintro loc ⟨i, z, rfl⟩
  exact ⟨hf _ _ _ rfl, sl_lt hi.sl⟩
theorem part48 (a b c d : DV) : partD Try.prog 48 [a, b, c, d] 0 = some (.agg [a, b, c, d]) := rfl
theorem part26 (x : Item) : partD Try.prog 26 x.cells 0 = some (.agg x.cells) := rfl
theorem part26' (a b c d e f : DV) : partD Try.prog 26 [a, b, c, d, e, f] 0 = some (.agg [a, b, c, d, e, f]) := rfl
theorem zero48 : zeroT Try.prog 48 = some (.agg [.sl none 0 0 true, .int .u64 0, .int .i64 0, .int .i64 0]) := by kernel_rfl
theorem zero26 : zeroT Try.prog 26 = some (.agg [.int .i64 0, .int .i64 0, .int .u64 0, .int .i64 0, .int .i64 0, .int .u64 0]) := by kernel_rfl
/-- A kernel. -/
structure Kq where
  l : List Item
  nx : Int
  now : Int
  hor : Int
structure Kq.ok (q : Kq) : Prop where
  len : q.l.length ≤ 1000000
  nx : 0 ≤ q.nx ∧ q.nx ≤ 18446744073709551615
def Kq.good (q : Kq) : Bool := kOk q.l q.nx q.now q.hor
def Kq.item (q : Kq) (a k w h m : Int) : Item := ⟨a, k, q.nx, w, h, m⟩
def Kq.postE (q : Kq) (a k : Int) : Int := Q.postE q.l q.nx q.now q.hor a k
def Kq.tok (q : Kq) (a k : Int) : Int := pQ q.l q.nx q.now q.hor a k
def Kq.post (q : Kq) (a k w h m : Int) : Kq := ⟨pL q.l (pushV q.l (q.item a k w h m)) q.nx q.now q.hor a k, pN q.l q.nx q.now q.hor a k, q.now, q.hor⟩
def Kq.rpost (q : Kq) (a k w h m : Int) : Kq := ⟨pL q.l (putL (sortL q.l) (q.item a k w h m)) q.nx q.now q.hor a k, pN q.l q.nx q.now q.hor a k, q.now, q.hor⟩
def Kq.cancelE (q : Kq) (t : Int) : Int := Q.cancelE q.l q.nx q.now q.hor t
def Kq.cancel (q : Kq) (t : Int) : Kq := ⟨cL q.l (takeV q.l t) q.nx q.now q.hor t, q.nx, q.now, q.hor⟩
def Kq.rcancel (q : Kq) (t : Int) : Kq := ⟨cL q.l (rtakeV q.l t) q.nx q.now q.hor t, q.nx, q.now, q.hor⟩
def Kq.stepE (q : Kq) : Int := Q.stepE q.l q.nx q.now q.hor
def Kq.stepX (q : Kq) : Item := sX q.l q.nx q.now q.hor
def Kq.step (q : Kq) : Kq := ⟨sL q.l (popV q.l) q.nx q.now q.hor, q.nx, sW q.l q.nx q.now q.hor, q.hor⟩
def Kq.rstep (q : Kq) : Kq := ⟨sL q.l ((sortL q.l).drop 1) q.nx q.now q.hor, q.nx, sW q.l q.nx q.now q.hor, q.hor⟩
def Kq.peekE (q : Kq) : Int := Q.peekE q.l q.nx q.now q.hor
def Kq.peekX (q : Kq) : Item := Q.peekX q.l q.nx q.now q.hor
def Kq.same (q p : Kq) : Bool := ksame q.l q.nx q.now q.hor p.l p.nx p.now p.hor
def Kq.checkE (q : Kq) : Int := if q.good then 0 else 1
def kNew (x : Int) : Kq := ⟨[], 0, 0, if newOk x then x else 0⟩
def kNewE (x : Int) : Int := if newOk x then 0 else 1
theorem post_some {q : Kq} {a k w h m : Int} (e : q.postE a k = 0) : (q.post a k w h m) = ⟨pushV q.l (q.item a k w h m), q.nx + 1, q.now, q.hor⟩ := by
  have e' : Q.postE q.l q.nx q.now q.hor a k = 0 := e
  simp only [Kq.post, pL, pN, e', if_true]
theorem post_none {q : Kq} {a k w h m : Int} (e : q.postE a k ≠ 0) : (q.post a k w h m) = q := by
  have e' : ¬ Q.postE q.l q.nx q.now q.hor a k = 0 := e
  simp only [Kq.post, pL, pN, e', if_false]
theorem rpost_some {q : Kq} {a k w h m : Int} (e : q.postE a k = 0) : (q.rpost a k w h m) = ⟨putL (sortL q.l) (q.item a k w h m), q.nx + 1, q.now, q.hor⟩ := by
  have e' : Q.postE q.l q.nx q.now q.hor a k = 0 := e
  simp only [Kq.rpost, pL, pN, e', if_true]
theorem rpost_none {q : Kq} {a k w h m : Int} (e : q.postE a k ≠ 0) : (q.rpost a k w h m) = q := by
  have e' : ¬ Q.postE q.l q.nx q.now q.hor a k = 0 := e
  simp only [Kq.rpost, pL, pN, e', if_false]
theorem cancel_some {q : Kq} {t : Int} (e : q.cancelE t = 0) : q.cancel t = ⟨takeV q.l t, q.nx, q.now, q.hor⟩ := by
  have e' : Q.cancelE q.l q.nx q.now q.hor t = 0 := e
  simp only [Kq.cancel, cL, e', if_true]
theorem cancel_none {q : Kq} {t : Int} (e : q.cancelE t ≠ 0) : q.cancel t = q := by
  have e' : ¬ Q.cancelE q.l q.nx q.now q.hor t = 0 := e
  simp only [Kq.cancel, cL, e', if_false]
theorem rcancel_some {q : Kq} {t : Int} (e : q.cancelE t = 0) : q.rcancel t = ⟨rtakeV q.l t, q.nx, q.now, q.hor⟩ := by
  have e' : Q.cancelE q.l q.nx q.now q.hor t = 0 := e
  simp only [Kq.rcancel, cL, e', if_true]
theorem rcancel_none {q : Kq} {t : Int} (e : q.cancelE t ≠ 0) : q.rcancel t = q := by
  have e' : ¬ Q.cancelE q.l q.nx q.now q.hor t = 0 := e
  simp only [Kq.rcancel, cL, e', if_false]
theorem step_some {q : Kq} (e : q.stepE = 0) : q.step = ⟨popV q.l, q.nx, (g q.l 0).a, q.hor⟩ := by
  have e' : Q.stepE q.l q.nx q.now q.hor = 0 := e
  simp only [Kq.step, sL, sW, e', if_true]
theorem step_none {q : Kq} (e : q.stepE ≠ 0) : q.step = q := by
  have e' : ¬ Q.stepE q.l q.nx q.now q.hor = 0 := e
  simp only [Kq.step, sL, sW, e', if_false]
theorem rstep_some {q : Kq} (e : q.stepE = 0) : q.rstep = ⟨(sortL q.l).drop 1, q.nx, (g q.l 0).a, q.hor⟩ := by
  have e' : Q.stepE q.l q.nx q.now q.hor = 0 := e
  simp only [Kq.rstep, sL, sW, e', if_true]
theorem rstep_none {q : Kq} (e : q.stepE ≠ 0) : q.rstep = q := by
  have e' : ¬ Q.stepE q.l q.nx q.now q.hor = 0 := e
  simp only [Kq.rstep, sL, sW, e', if_false]
theorem Kq.post_ok {q : Kq} (h : q.ok) {a k w h' m : Int} : (q.post a k w h' m).ok := by
  by_cases e : q.postE a k = 0
  · rw [post_some e]
    have hp := (post_zero e).2
    have := pushE_zero hp
    refine ⟨?_, ?_⟩
    · show (pushV _ _).length ≤ _
      rw [pushV_len hp]; omega
    · have e' : Q.postE q.l q.nx q.now q.hor a k = 0 := e
      have := h.nx
      have hne : q.nx ≠ 18446744073709551615 := by
        intro e2
        unfold Q.postE at e'
        rw [e2] at e'
        split at e'
        · split at e'
          · cases e'
          · split at e'
            · cases e'
            · cases e'
        · cases e'
      show 0 ≤ q.nx + 1 ∧ q.nx + 1 ≤ _
      omega
  · rw [post_none e]; exact h
theorem Kq.rpost_ok {q : Kq} (h : q.ok) {a k w h' m : Int} : (q.rpost a k w h' m).ok := by
  by_cases e : q.postE a k = 0
  · rw [rpost_some e]
    have hp := (post_zero e).2
    have := pushE_zero hp
    have h2 := (Kq.post_ok h (a := a) (k := k) (w := w) (h' := h') (m := m)).nx
    rw [post_some e] at h2
    refine ⟨?_, h2⟩
    show (putL _ _).length ≤ _
    rw [(putL_perm _ _).length_eq, List.length_cons, (sortL_perm _).length_eq]; omega
  · rw [rpost_none e]; exact h
theorem takeV_len {l : List Item} {t : Int} (h : takeE l t = 0) : (takeV l t).length = l.length - 1 ∧ (rtakeV l t).length = l.length - 1 := by
  obtain ⟨_, _, a, h3, h4, _⟩ := takeE_zero h
  unfold takeV rtakeV
  rw [if_pos h, if_pos h, h3, Int.toNat_natCast, (sortL_perm _).length_eq, withoutL_length (by omega)]
  exact ⟨rfl, rfl⟩
theorem Kq.cancel_ok {q : Kq} (h : q.ok) {t : Int} : (q.cancel t).ok := by
  by_cases e : q.cancelE t = 0
  · rw [cancel_some e]
    have := takeV_len (cancel_zero e)
    have := h.len
    exact ⟨by show (takeV _ _).length ≤ _; omega, h.nx⟩
  · rw [cancel_none e]; exact h
theorem Kq.rcancel_ok {q : Kq} (h : q.ok) {t : Int} : (q.rcancel t).ok := by
  by_cases e : q.cancelE t = 0
  · rw [rcancel_some e]
    have := takeV_len (cancel_zero e)
    have := h.len
    exact ⟨by show (rtakeV _ _).length ≤ _; omega, h.nx⟩
  · rw [rcancel_none e]; exact h
theorem Kq.step_ok {q : Kq} (h : q.ok) : (q.step).ok := by
  by_cases e : q.stepE = 0
  · rw [step_some e]
    have := popV_len (step_zero e)
    have := h.len
    exact ⟨by show (popV _).length ≤ _; omega, h.nx⟩
  · rw [step_none e]; exact h
theorem Kq.rstep_ok {q : Kq} (h : q.ok) : (q.rstep).ok := by
  by_cases e : q.stepE = 0
  · rw [rstep_some e]
    have := h.len
    exact ⟨by show (List.drop 1 _).length ≤ _; rw [List.length_drop, (sortL_perm _).length_eq]; omega, h.nx⟩
  · rw [rstep_none e]; exact h
theorem kNew_ok (x : Int) : (kNew x).ok := ⟨by simp [kNew], by simp [kNew]⟩
variable {s s2 : Sv} {q p : Kq} {K : DV → DH → Prop}
theorem check_b (hB : Bx A H bs fs) (hm : InF (Is s.dv q.l) fs) (hk : K (.int .i64 q.checkE) H) : CallWp Try.prog K5 49 [.agg [s.dv, .int .u64 q.nx, .int .i64 q.now, .int .i64 q.hor]] H K :=
  call_table (g := gKc) rfl (kc_t (hB.has hm)) hk
theorem new_b {x : Int} (hB : Bx A H bs fs) (hk : Bx A H bs (Is nilS.dv (kNew x).l :: fs) → K (.tuple [.agg [nilS.dv, .int .u64 (kNew x).nx, .int .i64 (kNew x).now, .int .i64 (kNew x).hor], .int .i64 (kNewE x)]) H) : CallWp Try.prog K5 46 [.int .i64 x] H K :=
  call_table (g := gNew) rfl rfl (hk (is_know hB (Above.refl H) (nilF H H)))
theorem post_b {a k w h m : Int} (hB : Bx A H bs fs) (hm : InF (Is s.dv q.l) fs) (hq : q.ok) (hk : ∀ (s' : Sv) H', Bx A H' bs (Is s'.dv (q.post a k w h m).l :: fs) → K (.tuple [.agg [s'.dv, .int .u64 (q.post a k w h m).nx, .int .i64 (q.post a k w h m).now, .int .i64 (q.post a k w h m).hor], .int .u64 (q.tok a k), .int .i64 (q.postE a k)]) H') :
    CallWp Try.prog K5 37 [.agg [s.dv, .int .u64 q.nx, .int .i64 q.now, .int .i64 q.hor], .int .i64 a, .int .i64 k, .int .i64 w, .int .i64 h, .int .u64 m] H K := by
  obtain ⟨p, c, ex, e, hl⟩ := hB.has hm
  rw [e]
  refine (post37 H p c ex q.l q.nx q.now q.hor a k w h m hl hq.len hq.nx).mono ?_
  intro r H' hp
  obtain ⟨ab, s', rfl, hi⟩ := hp.out
  obtain ⟨v, rfl⟩ := its_sv hi.its
  exact hk v _ (is_know hB ab hi)
theorem cancel_b {t : Int} (hB : Bx A H bs fs) (hm : InF (Is s.dv q.l) fs) (hq : q.ok) (hk : ∀ (s' : Sv) H', Bx A H' bs (Is s'.dv (q.cancel t).l :: fs) → K (.tuple [.agg [s'.dv, .int .u64 (q.cancel t).nx, .int .i64 (q.cancel t).now, .int .i64 (q.cancel t).hor], .int .i64 (q.cancelE t)]) H') :
    CallWp Try.prog K5 40 [.agg [s.dv, .int .u64 q.nx, .int .i64 q.now, .int .i64 q.hor], .int .u64 t] H K := by
  obtain ⟨p, c, ex, e, hl⟩ := hB.has hm
  rw [e]
  refine (cancel40 H p c ex q.l q.nx q.now q.hor t hl hq.len).mono ?_
  intro r H' hp
  obtain ⟨ab, s', rfl, hi⟩ := hp.out
  obtain ⟨v, rfl⟩ := its_sv hi.its
  exact hk v _ (is_know hB ab hi)
theorem step_b (hB : Bx A H bs fs) (hm : InF (Is s.dv q.l) fs) (hq : q.ok) (hk : ∀ (s' : Sv) H', Bx A H' bs (Is s'.dv q.step.l :: fs) → K (.tuple [.agg [s'.dv, .int .u64 q.step.nx, .int .i64 q.step.now, .int .i64 q.step.hor], .agg q.stepX.cells, .int .i64 q.stepE]) H') :
    CallWp Try.prog K5 42 [.agg [s.dv, .int .u64 q.nx, .int .i64 q.now, .int .i64 q.hor]] H K := by
  obtain ⟨p, c, ex, e, hl⟩ := hB.has hm
  rw [e]
  refine (step42 H p c ex q.l q.nx q.now q.hor hl hq.len).mono ?_
  intro r H' hp
  obtain ⟨ab, s', rfl, hi⟩ := hp.out
  obtain ⟨v, rfl⟩ := its_sv hi.its
  exact hk v _ (is_know hB ab hi)
end
end Go.Det.Q

/- Kernels: Tidy; the program's Same. -/
namespace Go.Det.Q
open Go Go.Det Go.Proofs
set_option maxRecDepth 4000
set_option maxHeartbeats 16000000
set_option linter.unusedVariables false
set_option linter.unusedSimpArgs false
def Kq.tidy (q : Kq) : Kq := ⟨if q.good then sortL q.l else q.l, q.nx, q.now, q.hor⟩
theorem tidy_yes {q : Kq} (h : q.good = true) : q.tidy.l = sortL q.l := by unfold Kq.tidy; rw [h]; rfl
theorem tidy_no {q : Kq} (h : q.good = false) : q.tidy.l = q.l := by unfold Kq.tidy; rw [h]; rfl
theorem Kq.tidy_ok {q : Kq} (h : q.ok) : q.tidy.ok := ⟨by unfold Kq.tidy; simp only; split <;> simp only [(sortL_perm _).length_eq, h.len], h.nx⟩
section
variable {A H : DH} {bs : List (Nat × DObj)} {fs : List (DH → Prop)} {s s2 : Sv} {q p : Kq} {K : DV → DH → Prop} {l m : List Item}
end
end Go.Det.Q

/- Kernels: the plain theory of what is posted, cancelled, and comes. -/
namespace Go.Det.Q
open Go Go.Det Go.Proofs
set_option maxHeartbeats 4000000
set_option linter.unusedVariables false
set_option linter.unusedSimpArgs false
/-- What is well made, but for the heap's order. -/
structure Soft (l : List Item) (nx now hor : Int) : Prop where
  n0 : 0 ≤ now
  nh : now ≤ hor
  may : mayB hor = true
  len : l.length ≤ 4096
  items : ∀ x ∈ l, itemOk nx now x = true
  nd : (l.map (·.s)).Nodup
theorem Soft.perm {l m : List Item} {nx now hor : Int} (h : Soft l nx now hor) (p : List.Perm l m) : Soft m nx now hor :=
  ⟨h.n0, h.nh, h.may, by rw [← p.length_eq]; exact h.len, fun x hx => h.items x (p.mem_iff.mpr hx), (p.map _).nodup_iff.mp h.nd⟩
theorem bad_none {l : List Item} {nx now : Int} : (List.range l.length).any (badI l nx now) = false ↔ (∀ x ∈ l, itemOk nx now x = true) ∧ (l.map (·.s)).Nodup := by
  rw [List.any_eq_false]
  constructor
  · intro h
    have key : ∀ (k : Nat) (hk : k < l.length), itemOk nx now l[k] = true ∧ ∀ y ∈ l.take k, y.s ≠ l[k].s := by
      intro k hk
      have := h k (List.mem_range.mpr hk)
      unfold badI at this
      rw [List.getElem?_eq_getElem hk] at this
      simp only [Bool.not_eq_true, Bool.or_eq_false_iff, Bool.not_eq_false', List.any_eq_false] at this
      refine ⟨this.1, fun y hy e => ?_⟩
      have := this.2 y hy
      simp [e] at this
    refine ⟨fun x hx => ?_, ?_⟩
    · obtain ⟨k, hk, rfl⟩ := List.getElem_of_mem hx
      exact (key k hk).1
    · rw [List.nodup_iff_pairwise_ne, List.pairwise_map, List.pairwise_iff_getElem]
      intro i j hi hj hij
      refine (key j hj).2 _ ?_
      rw [List.mem_take_iff_getElem]
      exact ⟨i, by omega, rfl⟩
  · rintro ⟨h1, h2⟩ k hk
    have hk' := List.mem_range.mp hk
    rw [List.nodup_iff_pairwise_ne, List.pairwise_map, List.pairwise_iff_getElem] at h2
    unfold badI
    rw [List.getElem?_eq_getElem hk']
    simp only [Bool.not_eq_true, Bool.or_eq_false_iff, Bool.not_eq_false', List.any_eq_false]
    refine ⟨h1 _ (List.getElem_mem hk'), fun y hy => ?_⟩
    obtain ⟨i, hi, rfl⟩ := List.mem_take_iff_getElem.mp hy
    have := h2 i k (by omega) hk' (by omega)
    simpa using this
theorem kOk_iff {l : List Item} {nx now hor : Int} : kOk l nx now hor = true ↔ Heap l ∧ Soft l nx now hor := by
  rw [kOk_eq]
  simp only [Bool.not_eq_true', Bool.or_eq_false_iff, decide_eq_false_iff_not, Bool.not_eq_false', bad_none, checkB_heap]
  constructor
  · rintro ⟨⟨⟨⟨h1, h2⟩, h3⟩, h4, h5⟩, h6, h7⟩
    exact ⟨h4, by omega, by omega, h3, h5, h6, h7⟩
  · rintro ⟨h4, h1, h2, h3, h5, h6, h7⟩
    exact ⟨⟨⟨⟨by omega, by omega⟩, h3⟩, h4, h5⟩, h6, h7⟩
theorem Kq.good_iff {q : Kq} : q.good = true ↔ Heap q.l ∧ Soft q.l q.nx q.now q.hor := kOk_iff
theorem Kq.good_of {q p : Kq} (h : q.good = true) (hp : List.Perm q.l p.l) (hh : Heap p.l) (e1 : p.nx = q.nx) (e2 : p.now = q.now) (e3 : p.hor = q.hor) : p.good = true := by
  rw [Kq.good_iff] at *
  rw [e1, e2, e3]
  exact ⟨hh, h.2.perm hp⟩
theorem itemOk_iff {nx now : Int} {x : Item} : itemOk nx now x = true ↔ mayB x.a = true ∧ now ≤ x.a ∧ 0 ≤ x.c ∧ x.c ≤ 15 ∧ x.s < nx := by
  unfold itemOk
  simp only [Bool.not_eq_true', Bool.or_eq_false_iff, Bool.not_eq_false', decide_eq_false_iff_not]
  constructor
  · rintro ⟨⟨⟨⟨h1, h2⟩, h3⟩, h4⟩, h5⟩
    exact ⟨h1, by omega, by omega, by omega, by omega⟩
  · rintro ⟨h1, h2, h3, h4, h5⟩
    exact ⟨⟨⟨⟨h1, by omega⟩, by omega⟩, by omega⟩, by omega⟩
/-! ### Post -/
theorem Kq.postE_bad {q : Kq} (h : q.good = false) (a k : Int) : q.postE a k = 1 := by
  have h' : kOk q.l q.nx q.now q.hor = false := h
  unfold Kq.postE Q.postE
  rw [h']; rfl
theorem Kq.postE_good {q : Kq} (h : q.good = true) (a k : Int) : q.postE a k = if (!mayB a || decide (k < 0) || decide (k > 15)) then 1 else if decide (a < q.now) then 2 else if q.nx == 18446744073709551615 then 7 else if q.l.length = 4096 then 7 else 0 := by
  have h' : kOk q.l q.nx q.now q.hor = true := h
  have hc := kOk_check h'
  unfold Kq.postE Q.postE pushE
  rw [h', if_pos rfl, if_pos hc]
structure PostOk (q : Kq) (a k : Int) : Prop where
  good : q.good = true
  may : mayB a = true
  k0 : 0 ≤ k
  k15 : k ≤ 15
  at_ : q.now ≤ a
  nx : q.nx ≠ 18446744073709551615
  len : q.l.length < 4096
theorem Kq.len_good {q : Kq} (h : q.good = true) : q.l.length ≤ 4096 := (Kq.good_iff.mp h).2.len
theorem Kq.postE_zero {q : Kq} {a k : Int} : q.postE a k = 0 ↔ PostOk q a k := by
  constructor
  · intro h
    cases hg : q.good with
    | false => rw [Kq.postE_bad hg] at h; cases h
    | true =>
      rw [Kq.postE_good hg] at h
      have := Kq.len_good hg
      split at h
      · cases h
      · rename_i h1
        split at h
        · cases h
        · rename_i h2
          split at h
          · cases h
          · rename_i h3
            split at h
            · cases h
            · rename_i h4
              simp only [Bool.or_eq_true, Bool.not_eq_true', decide_eq_true_eq, not_or, Bool.not_eq_false] at h1
              simp only [decide_eq_true_eq] at h2
              simp only [beq_iff_eq] at h3
              exact ⟨hg, h1.1.1, by omega, by omega, by omega, h3, by omega⟩
  · rintro ⟨hg, h1, h2, h3, h4, h5, h6⟩
    rw [Kq.postE_good hg]
    have a1 : decide (k < 0) = false := by simp; omega
    have a2 : decide (k > 15) = false := by simp; omega
    have a3 : decide (a < q.now) = false := by simp; omega
    have a4 : (q.nx == 18446744073709551615) = false := by simpa using h5
    rw [h1, a1, a2, a3, a4]
    simp
    omega
theorem Kq.post_perm {q : Kq} {a k w h m : Int} (e : q.postE a k = 0) : List.Perm (q.post a k w h m).l (q.item a k w h m :: q.l) := by
  rw [post_some e]
  exact pushV_perm (post_zero e).2
theorem Kq.post_good {q : Kq} {a k w h m : Int} (e : q.postE a k = 0) : (q.post a k w h m).good = true := by
  have ho := Kq.postE_zero.mp e
  have hp := Kq.post_perm (w := w) (h := h) (m := m) e
  obtain ⟨g1, g2⟩ := Kq.good_iff.mp ho.good
  rw [Kq.good_iff]
  rw [post_some e] at hp ⊢
  simp only at hp ⊢
  refine ⟨pushV_heap (post_zero e).2, g2.n0, g2.nh, g2.may, ?_, fun x hx => ?_, ?_⟩
  · rw [hp.length_eq, List.length_cons]; have := ho.len; omega
  · rcases List.mem_cons.mp (hp.mem_iff.mp hx) with rfl | hx
    · rw [itemOk_iff]
      exact ⟨ho.may, ho.at_, ho.k0, ho.k15, by show q.nx < q.nx + 1; omega⟩
    · have := itemOk_iff.mp (g2.items x hx)
      rw [itemOk_iff]
      exact ⟨this.1, this.2.1, this.2.2.1, this.2.2.2.1, by omega⟩
  · rw [(hp.map _).nodup_iff, List.map_cons, List.nodup_cons]
    refine ⟨fun hx => ?_, g2.nd⟩
    obtain ⟨y, hy, e⟩ := List.mem_map.mp hx
    have := (itemOk_iff.mp (g2.items y hy)).2.2.2.2
    have e' : y.s = q.nx := e
    omega
/-! ### Cancel -/
theorem Kq.cancelE_good {q : Kq} (h : q.good = true) (t : Int) : q.cancelE t = takeE q.l t := by
  have h' : kOk q.l q.nx q.now q.hor = true := h
  unfold Kq.cancelE Q.cancelE
  rw [h']; rfl
theorem Kq.cancel_not {q : Kq} (h : q.good = true) {t : Int} (hn : ∀ x ∈ q.l, x.s ≠ t) : q.cancelE t = 8 := by
  have h' : kOk q.l q.nx q.now q.hor = true := h
  rw [Kq.cancelE_good h]
  refine takeE_none (kOk_check h') ?_
  rcases takeF_spec q.l t q.l.length (Nat.le_refl _) with ⟨h1, _⟩ | ⟨a, h1, h2, h3, h4⟩
  · exact h1
  · exact absurd h3 (hn _ (g_mem h2))
theorem Kq.cancel_has {q : Kq} (h : q.good = true) {x : Item} (hx : x ∈ q.l) : q.cancelE x.s = 0 ∧ List.Perm q.l (x :: (q.cancel x.s).l) ∧ (q.cancel x.s).good = true := by
  have h' : kOk q.l q.nx q.now q.hor = true := h
  obtain ⟨g1, g2⟩ := Kq.good_iff.mp h
  have e : q.cancelE x.s = 0 := by
    rw [Kq.cancelE_good h]
    refine takeE_ok (kOk_check h') ?_
    rcases takeF_spec q.l x.s q.l.length (Nat.le_refl _) with ⟨h1, h2⟩ | ⟨a, h1, h2, h3, h4⟩
    · obtain ⟨i, hi, rfl⟩ := List.getElem_of_mem hx
      have := h2 i hi
      rw [g_of (List.getElem?_eq_getElem hi)] at this
      simp at this
    · omega
  obtain ⟨h1, h2, a, h3, h4, h5⟩ := takeE_zero (cancel_zero e)
  have hv : takeV q.l x.s = withoutL q.l a := by
    unfold takeV
    rw [if_pos (cancel_zero e), h3, Int.toNat_natCast]
  have hgx : g q.l a = x := by
    have nd := g2.nd
    rw [List.nodup_iff_pairwise_ne, List.pairwise_map, List.pairwise_iff_getElem] at nd
    obtain ⟨i, hi, rfl⟩ := List.getElem_of_mem hx
    rw [g_of (List.getElem?_eq_getElem h4)] at h5 ⊢
    rcases Nat.lt_trichotomy a i with hh | hh | hh
    · exact absurd h5 (nd a i h4 hi hh)
    · subst hh; rfl
    · exact absurd h5.symm (nd i a hi h4 hh)
  have hp : List.Perm q.l (x :: withoutL q.l a) := by
    have h6 : q.l[a]? = some x := by rw [g_at h4, hgx]
    exact (erase_perm h6).trans ((withoutL_perm h4).symm.cons x)
  rw [cancel_some e, hv]
  refine ⟨e, hp, ?_⟩
  rw [Kq.good_iff]
  have hs := g2.perm hp
  refine ⟨withoutL_heap h1 h4, hs.n0, hs.nh, hs.may, ?_, fun y hy => hs.items y (List.mem_cons_of_mem _ hy), ?_⟩
  · have := hs.len; rw [List.length_cons] at this; show (withoutL q.l a).length ≤ 4096; omega
  · have := hs.nd
    rw [List.map_cons, List.nodup_cons] at this
    exact this.2
theorem Kq.cancel_cases {q : Kq} (h : q.good = true) (t : Int) : (q.cancelE t = 0 ∧ ∃ x ∈ q.l, x.s = t ∧ List.Perm q.l (x :: (q.cancel t).l) ∧ (q.cancel t).good = true) ∨ (q.cancelE t = 8 ∧ ∀ x ∈ q.l, x.s ≠ t) := by
  by_cases hx : ∃ x ∈ q.l, x.s = t
  · obtain ⟨x, hx, rfl⟩ := hx
    obtain ⟨h1, h2, h3⟩ := Kq.cancel_has h hx
    exact .inl ⟨h1, x, hx, rfl, h2, h3⟩
  · have hn : ∀ x ∈ q.l, x.s ≠ t := fun x h1 h2 => hx ⟨x, h1, h2⟩
    exact .inr ⟨Kq.cancel_not h hn, hn⟩
/-! ### Step -/
theorem ilt_at {x y : Item} (h : ilt y x = false) : x.a ≤ y.a := by
  unfold ilt at h
  rw [decide_eq_false_iff_not] at h
  simp only [Item.key, cmpL_neg, cmpL_nil] at h
  omega
theorem Kq.stepE_bad {q : Kq} (h : q.good = false) : q.stepE = 1 := by
  have h' : kOk q.l q.nx q.now q.hor = false := h
  unfold Kq.stepE Q.stepE Q.peekE
  rw [h']; rfl
theorem Kq.stepE_good {q : Kq} (h : q.good = true) : q.stepE = if q.l = [] then 8 else if decide ((g q.l 0).a > q.hor) then 2 else 0 := by
  have h' : kOk q.l q.nx q.now q.hor = true := h
  unfold Kq.stepE Q.stepE Q.peekE
  rw [h', if_pos rfl]
  by_cases he : q.l = []
  · rw [if_pos he, if_pos he]; rfl
  · rw [if_neg he, if_neg he, if_pos rfl]
structure StepOk (q : Kq) : Prop where
  good : q.good = true
  perm : List.Perm q.l (q.stepX :: q.step.l)
  at_ : q.stepX.a ≤ q.hor
  first : ∀ z ∈ q.l, ilt z q.stepX = false
  now : q.step.now = q.stepX.a
  good' : q.step.good = true
theorem Kq.step_ok0 {q : Kq} (e : q.stepE = 0) : StepOk q := by
  have hg : q.good = true := by
    cases hg : q.good with
    | true => rfl
    | false => rw [Kq.stepE_bad hg] at e; cases e
  have hz := step_zero e
  have e' := e
  rw [Kq.stepE_good hg] at e'
  have hx : q.stepX = g q.l 0 := by
    have e2 : Q.stepE q.l q.nx q.now q.hor = 0 := e
    unfold Kq.stepX sX
    rw [if_pos e2]
  have hpx : popX q.l = g q.l 0 := by unfold popX; rw [if_pos hz]
  have hp := popV_perm hz
  have hf := pop_first hz
  rw [hpx] at hp hf
  have hat : (g q.l 0).a ≤ q.hor := by
    split at e'
    · cases e'
    · split at e'
      · cases e'
      · rename_i h; simp only [decide_eq_true_eq] at h; omega
  obtain ⟨g1, g2⟩ := Kq.good_iff.mp hg
  have hs := g2.perm hp
  have hm : g q.l 0 ∈ q.l := hp.mem_iff.mpr List.mem_cons_self
  have hok := itemOk_iff.mp (g2.items _ hm)
  refine ⟨hg, by rw [hx, step_some e]; exact hp, by rw [hx]; exact hat, by rw [hx]; exact hf, by rw [hx, step_some e], ?_⟩
  rw [step_some e, Kq.good_iff]
  refine ⟨popV_heap hz, by have := g2.n0; have := hok.2.1; show 0 ≤ (g q.l 0).a; omega, hat, g2.may, ?_, fun y hy => ?_, ?_⟩
  · have := hs.len; rw [List.length_cons] at this; show (popV q.l).length ≤ 4096; omega
  · have hy' : y ∈ q.l := hp.mem_iff.mpr (List.mem_cons_of_mem _ hy)
    have h1 := itemOk_iff.mp (g2.items y hy')
    have h2 := ilt_at (hf y hy')
    rw [itemOk_iff]
    exact ⟨h1.1, h2, h1.2.2.1, h1.2.2.2.1, h1.2.2.2.2⟩
  · have := hs.nd
    rw [List.map_cons, List.nodup_cons] at this
    exact this.2
/-! ### two alike -/
structure Sim (q p : Kq) : Prop where
  nx : q.nx = p.nx
  now : q.now = p.now
  hor : q.hor = p.hor
  perm : List.Perm q.l p.l
  good : q.good = p.good
theorem Sim.refl (q : Kq) : Sim q q := ⟨rfl, rfl, rfl, .refl _, rfl⟩
theorem same_of {q p : Kq} (h1 : q.nx = p.nx) (h2 : q.now = p.now) (h3 : q.hor = p.hor) (h4 : List.Perm q.l p.l) : q.same p = true := by
  unfold Kq.same ksame
  rw [h1, h2, h3, sortL_congr h4]
  simp
theorem Sim.same {q p : Kq} (h : Sim q p) : q.same p = true := same_of h.nx h.now h.hor h.perm
theorem Sim.tidy (q : Kq) : Sim q q.tidy := by
  cases hg : q.good with
  | false => exact ⟨rfl, rfl, rfl, by rw [tidy_no hg], by unfold Kq.good; rw [tidy_no hg]; rfl⟩
  | true =>
    have hp : List.Perm q.l q.tidy.l := by rw [tidy_yes hg]; exact (sortL_perm _).symm
    refine ⟨rfl, rfl, rfl, hp, ?_⟩
    rw [hg]
    exact (Kq.good_of hg hp (by rw [tidy_yes hg]; exact sorted_heap (sortL_sorted _)) rfl rfl rfl).symm
theorem heap_head {l m : List Item} (h1 : Heap l) (h2 : Heap m) (p : List.Perm l m) (hne : l ≠ []) : g l 0 = g m 0 := by
  have hl : 0 < l.length := List.length_pos_iff.mpr hne
  have hm : 0 < m.length := by rw [← p.length_eq]; exact hl
  obtain ⟨t, e1, _⟩ := sortL_first h1 (g_at hl)
  obtain ⟨t', e2, _⟩ := sortL_first h2 (g_at hm)
  rw [sortL_congr p, e2] at e1
  exact ((List.cons.inj e1).1).symm
theorem Sim.step {q p : Kq} (h : Sim q p) : q.stepE = p.stepE ∧ q.stepX = p.stepX ∧ Sim q.step p.step := by
  cases hg : q.good with
  | false =>
    have hg' : p.good = false := by rw [← h.good]; exact hg
    have e1 := Kq.stepE_bad hg
    have e2 := Kq.stepE_bad hg'
    refine ⟨by rw [e1, e2], ?_, by rw [step_none (by rw [e1]; decide), step_none (by rw [e2]; decide)]; exact h⟩
    have a1 : ¬ Q.stepE q.l q.nx q.now q.hor = 0 := by show ¬ q.stepE = 0; rw [e1]; decide
    have a2 : ¬ Q.stepE p.l p.nx p.now p.hor = 0 := by show ¬ p.stepE = 0; rw [e2]; decide
    unfold Kq.stepX sX
    rw [if_neg a1, if_neg a2]
  | true =>
    have hg' : p.good = true := by rw [← h.good]; exact hg
    have g1 := (Kq.good_iff.mp hg).1
    have g2 := (Kq.good_iff.mp hg').1
    have hE : q.stepE = p.stepE := by
      rw [Kq.stepE_good hg, Kq.stepE_good hg', h.hor]
      by_cases hn : q.l = []
      · have : p.l = [] := by have := h.perm; rw [hn] at this; exact List.Perm.nil_eq this |>.symm
        rw [if_pos hn, if_pos this]
      · have : p.l ≠ [] := fun e => hn (by have := h.perm; rw [e] at this; exact List.Perm.eq_nil this)
        rw [if_neg hn, if_neg this, heap_head g1 g2 h.perm hn]
    by_cases e : q.stepE = 0
    · have e2 : p.stepE = 0 := by rw [← hE]; exact e
      have s1 := Kq.step_ok0 e
      have s2 := Kq.step_ok0 e2
      have hX : q.stepX = p.stepX := by
        have e1' : Q.stepE q.l q.nx q.now q.hor = 0 := e
        have e2' : Q.stepE p.l p.nx p.now p.hor = 0 := e2
        unfold Kq.stepX sX
        rw [if_pos e1', if_pos e2']
        refine heap_head g1 g2 h.perm fun hn => ?_
        rw [Kq.stepE_good hg, if_pos hn] at e
        cases e
      refine ⟨hE, hX, h.nx, by rw [s1.now, s2.now, hX], h.hor, ?_, by rw [s1.good', s2.good']⟩
      have := s1.perm.symm.trans (h.perm.trans s2.perm)
      rw [hX] at this
      exact List.Perm.cons_inv this
    · have e2 : ¬ p.stepE = 0 := by rw [← hE]; exact e
      have a1 : ¬ Q.stepE q.l q.nx q.now q.hor = 0 := e
      have a2 : ¬ Q.stepE p.l p.nx p.now p.hor = 0 := e2
      refine ⟨hE, ?_, by rw [step_none e, step_none e2]; exact h⟩
      unfold Kq.stepX sX
      rw [if_neg a1, if_neg a2]
theorem Sim.post {q p : Kq} (h : Sim q p) (a k w i m : Int) : q.postE a k = p.postE a k ∧ q.tok a k = p.tok a k ∧ Sim (q.post a k w i m) (p.post a k w i m) := by
  have hE : q.postE a k = p.postE a k := by
    cases hg : q.good with
    | false =>
      have hg' : p.good = false := by rw [← h.good]; exact hg
      rw [Kq.postE_bad hg, Kq.postE_bad hg']
    | true =>
      have hg' : p.good = true := by rw [← h.good]; exact hg
      rw [Kq.postE_good hg, Kq.postE_good hg', h.now, h.nx, h.perm.length_eq]
  refine ⟨hE, ?_, ?_⟩
  · have hE' : Q.postE q.l q.nx q.now q.hor a k = Q.postE p.l p.nx p.now p.hor a k := hE
    unfold Kq.tok pQ
    rw [hE', h.nx]
  · by_cases e : q.postE a k = 0
    · have e2 : p.postE a k = 0 := by rw [← hE]; exact e
      have p1 := Kq.post_perm (w := w) (h := i) (m := m) e
      have p2 := Kq.post_perm (w := w) (h := i) (m := m) e2
      have g1 := Kq.post_good (w := w) (h := i) (m := m) e
      have g2 := Kq.post_good (w := w) (h := i) (m := m) e2
      have hi : q.item a k w i m = p.item a k w i m := by unfold Kq.item; rw [h.nx]
      refine ⟨?_, ?_, ?_, p1.trans (by rw [hi]; exact (h.perm.cons _).trans p2.symm), by rw [g1, g2]⟩
      · rw [post_some e, post_some e2]; show q.nx + 1 = p.nx + 1; rw [h.nx]
      · exact h.now
      · exact h.hor
    · have e2 : ¬ p.postE a k = 0 := by rw [← hE]; exact e
      rw [post_none e, post_none e2]; exact h
end Go.Det.Q

/- Maps in boxes. -/
namespace Go.Det
set_option linter.unusedVariables false
set_option linter.unusedSimpArgs false
section
variable {P : Program} {X : Ext} {A H : DH} {bs bs' : List (Nat × DObj)} {fs : List (DH → Prop)} {o : Oper} {env : List DV} {K : DV → DH → Prop}
theorem bx_makemap {t kt e : TypeId} (ho : o.op = .makeMap t none) (hu : P.underlying t = some (.map kt e)) (hB : Bx A H bs fs) (hk : ∀ b H', Bx A H' ((b, .map []) :: bs) fs → K (.map (some b)) H') : OpWp P X o env H K := by
  refine op_at (v := .map (some H.next)) (H' := H.new (.map [])) ?_ (hk _ _ (hB.box _))
  simp only [opD, ho, mover, moveD, hu, if_true]
theorem bx_lookup {t kt e : TypeId} {a k : Operand} {ok : Bool} {b i : Nat} {kv v : DV} {es : List (DV × DV)} (ho : o.op = .lookup t a k ok) (ha : evalO env a = some (.map (some b))) (hk : evalO env k = some kv) (hu : P.underlying t = some (.map kt e)) (hB : Bx A H bs fs) (hm : At b (.map es) bs)
    (hko : keyOk P kt kv = true) (hf : findD P kt kv es = some (some (i, v))) (hr : K (if ok then .tuple [v, .bool true] else v) H) : OpWp P X o env H K := by
  refine op_at ?_ hr
  simp only [opD, ho, mover, reader, readD, ha, hk, lookupD, hu, hko, if_true, mapEs, hB.get hm, hf]
  rfl
theorem bx_lookup0 {t kt e : TypeId} {a k : Operand} {ok : Bool} {b : Nat} {kv z : DV} {es : List (DV × DV)} (ho : o.op = .lookup t a k ok) (ha : evalO env a = some (.map (some b))) (hk : evalO env k = some kv) (hu : P.underlying t = some (.map kt e)) (hB : Bx A H bs fs) (hm : At b (.map es) bs)
    (hko : keyOk P kt kv = true) (hf : findD P kt kv es = some none) (hz : zeroT P e = some z) (hr : K (if ok then .tuple [z, .bool false] else z) H) : OpWp P X o env H K := by
  refine op_at ?_ hr
  simp only [opD, ho, mover, reader, readD, ha, hk, lookupD, hu, hko, if_true, mapEs, hB.get hm, hf, hz, Option.map_some]
  rfl
theorem bx_update0 {t kt e : TypeId} {a k x : Operand} {b : Nat} {kv v : DV} {es : List (DV × DV)} (ho : o.op = .mapUpdate t a k x) (ha : evalO env a = some (.map (some b))) (hk : evalO env k = some kv) (hx : evalO env x = some v) (hu : P.underlying t = some (.map kt e)) (hB : Bx A H bs fs)
    (hup : Upd b (.map es) (.map (es ++ [(kv, v)])) bs bs') (hko : keyOk P kt kv = true) (hf : findD P kt kv es = some none) (hr : ∀ H', Bx A H' bs' fs → K undefD H') : OpWp P X o env H K := by
  refine op_at (v := undefD) (H' := H.set b (some (.map (es ++ [(kv, v)])))) ?_ (hr _ (hB.put hup))
  simp only [opD, ho, mover, moveD, ha, hk, hx, updateD, hu, hB.get hup.at, hko, if_true, setEntry, hf, Option.map_some]
theorem Upd.same {b : Nat} {o : DObj} {l : List (Nat × DObj)} (h : At b o l) : Upd b o o l l := by
  induction h with
  | here => exact .here
  | there _ ih => exact .there ih
theorem bx_delete0 {t kt e kt2 : TypeId} {a k : Operand} {b : Nat} {kv : DV} {es : List (DV × DV)} (ho : o.op = .call ⟨.builtin .delete, #[a, k], #[t, kt2]⟩) (ha : evalO env a = some (.map (some b))) (hk : evalO env k = some kv) (hu : P.underlying t = some (.map kt e)) (hB : Bx A H bs fs)
    (hm : At b (.map es) bs) (hko : keyOk P kt kv = true) (hf : findD P kt kv es = some none) (hr : ∀ H', Bx A H' bs fs → K undefD H') : OpWp P X o env H K := by
  refine op_at (v := undefD) (H' := H.set b (some (.map es))) ?_ (hr _ (hB.put (Upd.same hm)))
  simp only [opD, ho, mover, moveD, ha, hk, deleteD, hu, hB.get hm, hko, if_true, dropEntry, hf, Option.map_some]
theorem bx_delete1 {t kt e kt2 : TypeId} {a k : Operand} {b i : Nat} {kv u : DV} {es : List (DV × DV)} (ho : o.op = .call ⟨.builtin .delete, #[a, k], #[t, kt2]⟩) (ha : evalO env a = some (.map (some b))) (hk : evalO env k = some kv) (hu : P.underlying t = some (.map kt e)) (hB : Bx A H bs fs)
    (hup : Upd b (.map es) (.map (es.eraseIdx i)) bs bs') (hko : keyOk P kt kv = true) (hf : findD P kt kv es = some (some (i, u))) (hr : ∀ H', Bx A H' bs' fs → K undefD H') : OpWp P X o env H K := by
  refine op_at (v := undefD) (H' := H.set b (some (.map (es.eraseIdx i)))) ?_ (hr _ (hB.put hup))
  simp only [opD, ho, mover, moveD, ha, hk, deleteD, hu, hB.get hup.at, hko, if_true, dropEntry, hf, Option.map_some]
theorem bx_maplen {t kt e : TypeId} {a : Operand} {b : Nat} {es : List (DV × DV)} (ho : o.op = .call ⟨.builtin .len, #[a], #[t]⟩) (ha : evalO env a = some (.map (some b))) (hu : P.underlying t = some (.map kt e)) (hB : Bx A H bs fs) (hm : At b (.map es) bs) (hr : K (.int .i64 es.length) H) : OpWp P X o env H K := by
  refine op_at ?_ hr
  simp only [opD, ho, mover, reader, readD, ha, hu, hB.get hm, if_true]
  rfl
theorem bx_lookupT {t kt e : TypeId} {a k : Operand} {b i : Nat} {kv v : DV} {es : List (DV × DV)} (ho : o.op = .lookup t a k true) (ha : evalO env a = some (.map (some b))) (hk : evalO env k = some kv) (hu : P.underlying t = some (.map kt e)) (hB : Bx A H bs fs) (hm : At b (.map es) bs)
    (hko : keyOk P kt kv = true) (hf : findD P kt kv es = some (some (i, v))) (hr : K (.tuple [v, .bool true]) H) : OpWp P X o env H K := bx_lookup ho ha hk hu hB hm hko hf hr
theorem bx_lookupF {t kt e : TypeId} {a k : Operand} {b i : Nat} {kv v : DV} {es : List (DV × DV)} (ho : o.op = .lookup t a k false) (ha : evalO env a = some (.map (some b))) (hk : evalO env k = some kv) (hu : P.underlying t = some (.map kt e)) (hB : Bx A H bs fs) (hm : At b (.map es) bs)
    (hko : keyOk P kt kv = true) (hf : findD P kt kv es = some (some (i, v))) (hr : K v H) : OpWp P X o env H K := bx_lookup ho ha hk hu hB hm hko hf hr
theorem bx_lookup0T {t kt e : TypeId} {a k : Operand} {b : Nat} {kv z : DV} {es : List (DV × DV)} (ho : o.op = .lookup t a k true) (ha : evalO env a = some (.map (some b))) (hk : evalO env k = some kv) (hu : P.underlying t = some (.map kt e)) (hB : Bx A H bs fs) (hm : At b (.map es) bs)
    (hko : keyOk P kt kv = true) (hf : findD P kt kv es = some none) (hz : zeroT P e = some z) (hr : K (.tuple [z, .bool false]) H) : OpWp P X o env H K := bx_lookup0 ho ha hk hu hB hm hko hf hz hr
theorem bx_update0e {t kt e : TypeId} {a k x : Operand} {b : Nat} {kv v : DV} {es es2 : List (DV × DV)} (ho : o.op = .mapUpdate t a k x) (ha : evalO env a = some (.map (some b))) (hk : evalO env k = some kv) (hx : evalO env x = some v) (hu : P.underlying t = some (.map kt e)) (hB : Bx A H bs fs)
    (hko : keyOk P kt kv = true) (hf : findD P kt kv es = some none) (he : es ++ [(kv, v)] = es2) (hup : Upd b (.map es) (.map es2) bs bs') (hr : ∀ H', Bx A H' bs' fs → K undefD H') : OpWp P X o env H K := by
  subst he; exact bx_update0 ho ha hk hx hu hB hup hko hf hr
theorem bx_delete1e {t kt e kt2 : TypeId} {a k : Operand} {b i : Nat} {kv u : DV} {es es2 : List (DV × DV)} (ho : o.op = .call ⟨.builtin .delete, #[a, k], #[t, kt2]⟩) (ha : evalO env a = some (.map (some b))) (hk : evalO env k = some kv) (hu : P.underlying t = some (.map kt e)) (hB : Bx A H bs fs)
    (hko : keyOk P kt kv = true) (hf : findD P kt kv es = some (some (i, u))) (he : es.eraseIdx i = es2) (hup : Upd b (.map es) (.map es2) bs bs') (hr : ∀ H', Bx A H' bs' fs → K undefD H') : OpWp P X o env H K := by
  subst he; exact bx_delete1 ho ha hk hu hB hup hko hf hr
/-! ### keys of a kind -/
variable {κ : Type} [DecidableEq κ]
end
end Go.Det

/- KernelOrders: the plain theory, and what its map holds. -/
namespace Go.Det.Q
open Go Go.Det Go.Proofs
set_option maxHeartbeats 4000000
set_option linter.unusedVariables false
set_option linter.unusedSimpArgs false
def thereE (M : List Item) : List (DV × DV) := M.map fun x => (.int .u64 x.s, .agg x.cells)
theorem there_not {t : Int} : ∀ {M : List Item}, (∀ x ∈ M, x.s ≠ t) → findD Try.prog 24 (.int .u64 t) (thereE M) = some none
  | [], _ => rfl
  | x :: M, h => by
    have hx : (t == x.s) = false := by
      have := h x List.mem_cons_self
      simp only [beq_eq_false_iff_ne, ne_eq]
      exact fun e => this e.symm
    have ih := there_not (M := M) fun y hy => h y (List.mem_cons_of_mem _ hy)
    unfold thereE at ih
    simp only [thereE, List.map_cons, findD, keq_int, hx, ih]
    rfl
theorem there_has {x : Item} : ∀ {M : List Item}, x ∈ M → (M.map (·.s)).Nodup → ∃ i, M[i]? = some x ∧ findD Try.prog 24 (.int .u64 x.s) (thereE M) = some (some (i, .agg x.cells))
  | [], h, _ => by cases h
  | y :: M, h, nd => by
    simp only [List.map_cons, List.nodup_cons] at nd
    rcases List.mem_cons.mp h with rfl | h
    · refine ⟨0, rfl, ?_⟩
      have : (x.s == x.s) = true := beq_self_eq_true _
      simp only [thereE, List.map_cons, findD, keq_int, this]
    · obtain ⟨i, h1, h2⟩ := there_has h nd.2
      have hne : (x.s == y.s) = false := by
        simp only [beq_eq_false_iff_ne, ne_eq]
        exact fun e => nd.1 (e ▸ List.mem_map.mpr ⟨x, h, rfl⟩)
      refine ⟨i + 1, by simpa using h1, ?_⟩
      unfold thereE at h2
      simp only [thereE, List.map_cons, findD, keq_int, hne, h2]
      rfl
theorem there_add (M : List Item) (x : Item) : thereE M ++ [(.int .u64 x.s, .agg x.cells)] = thereE (M ++ [x]) := by simp [thereE]
theorem there_drop (M : List Item) (i : Nat) : (thereE M).eraseIdx i = thereE (M.eraseIdx i) := by
  unfold thereE
  rw [List.eraseIdx_eq_take_drop_succ, List.eraseIdx_eq_take_drop_succ, List.map_append, List.map_take, List.map_drop]
theorem there_len (M : List Item) : (thereE M).length = M.length := by simp [thereE]
theorem there_mem {M : List Item} {k v : DV} (h : (k, v) ∈ thereE M) : ∃ x ∈ M, k = .int .u64 x.s ∧ v = .agg x.cells := by
  unfold thereE at h
  obtain ⟨x, hx, e⟩ := List.mem_map.mp h
  cases e
  exact ⟨x, hx, rfl, rfl⟩
/-- A queue and what is there. -/
structure Ord (q : Kq) (M : List Item) (hor : Int) (k : Nat) : Prop where
  good : q.good = true
  perm : List.Perm q.l M
  hor : q.hor = hor
  nx0 : 0 ≤ q.nx
  nx : q.nx ≤ k
  len : q.l.length ≤ k
theorem Ord.nd {q : Kq} {M : List Item} {hor : Int} {k : Nat} (h : Ord q M hor k) : (M.map (·.s)).Nodup := (h.perm.map _).nodup_iff.mp (Kq.good_iff.mp h.good).2.nd
theorem Ord.up {q : Kq} {M : List Item} {hor : Int} {k : Nat} (h : Ord q M hor k) : Ord q M hor (k + 1) := ⟨h.good, h.perm, h.hor, h.nx0, by have := h.nx; omega, by have := h.len; omega⟩
theorem Ord.ok {q : Kq} {M : List Item} {hor : Int} {k : Nat} (h : Ord q M hor k) (hk : k ≤ 1000) : q.ok := ⟨by have := h.len; omega, h.nx0, by have := h.nx; omega⟩
theorem ord_new {hor : Int} (h : 0 ≤ hor ∧ hor ≤ 65535) : Ord (kNew hor) [] hor 0 ∧ kNewE hor = 0 := by
  have hm : mayB hor = true := by unfold mayB; simp; omega
  have hn : newOk hor = true := by unfold newOk; rw [hm]; simp; omega
  refine ⟨⟨?_, ?_, ?_, ?_, ?_, ?_⟩, ?_⟩
  · rw [Kq.good_iff]
    unfold kNew
    rw [hn]
    exact ⟨fun i h0 hi => by simp at hi, ⟨Int.le_refl _, h.1, hm, by simp, by simp, by simp⟩⟩
  · exact .refl _
  · unfold kNew; rw [hn]; rfl
  · exact Int.le_refl _
  · exact Int.le_refl _
  · exact Nat.le_refl _
  · unfold kNewE; rw [hn]; rfl
theorem tok_is {q : Kq} {a k : Int} (e : q.postE a k = 0) : q.tok a k = q.nx := by
  have e' : Q.postE q.l q.nx q.now q.hor a k = 0 := e
  unfold Kq.tok pQ; rw [if_pos e']
theorem ord_post {q : Kq} {M : List Item} {hor : Int} {k : Nat} (h : Ord q M hor k) (hk : k ≤ 1000) {a c w : Int} (ha : 0 ≤ a ∧ a ≤ 65535) (hc : 0 ≤ c ∧ c ≤ 15) :
    (q.now ≤ a ∧ q.postE a c = 0 ∧ (∀ x ∈ M, x.s ≠ q.tok a c) ∧ Ord (q.post a c 1 w 7) (M ++ [⟨a, c, q.tok a c, 1, w, 7⟩]) hor (k + 1)) ∨ (a < q.now ∧ q.postE a c = 2 ∧ Ord (q.post a c 1 w 7) M hor (k + 1)) := by
  have hm : mayB a = true := by unfold mayB; simp; omega
  by_cases hlt : q.now ≤ a
  · left
    have e : q.postE a c = 0 := Kq.postE_zero.mpr ⟨h.good, hm, hc.1, hc.2, hlt, by have := h.nx; omega, by have := h.len; omega⟩
    have hp := Kq.post_perm (w := 1) (h := w) (m := 7) e
    refine ⟨hlt, e, fun x hx ex => ?_, Kq.post_good e, ?_, h.hor, ?_, ?_, ?_⟩
    · rw [tok_is e] at ex
      have := (itemOk_iff.mp ((Kq.good_iff.mp h.good).2.items x (h.perm.mem_iff.mpr hx))).2.2.2.2
      omega
    · rw [tok_is e]
      exact hp.trans ((h.perm.cons _).trans (List.perm_append_singleton _ _).symm)
    · rw [post_some e]; have := h.nx0; show 0 ≤ q.nx + 1; omega
    · rw [post_some e]; have := h.nx; show q.nx + 1 ≤ _; omega
    · rw [hp.length_eq, List.length_cons]; have := h.len; omega
  · right
    have e : q.postE a c = 2 := by
      rw [Kq.postE_good h.good]
      have a1 : decide (c < 0) = false := by simp; omega
      have a2 : decide (c > 15) = false := by simp; omega
      have a3 : decide (a < q.now) = true := by simp; omega
      rw [hm, a1, a2, a3]
      rfl
    exact ⟨by omega, e, by rw [post_none (by rw [e]; decide)]; exact h.up⟩
theorem erase_perm' {q M : List Item} {x : Item} {i : Nat} (hp : List.Perm q M) {t : List Item} (hq : List.Perm q (x :: t)) (hi : M[i]? = some x) : List.Perm t (M.eraseIdx i) :=
  List.Perm.cons_inv (hq.symm.trans (hp.trans (erase_perm hi)))
theorem ord_cancel {q : Kq} {M : List Item} {hor : Int} {k : Nat} (h : Ord q M hor k) (t : Int) :
    (q.cancelE t = 0 ∧ (∃ (i : Nat) (x : Item), x.s = t ∧ findD Try.prog 24 (.int .u64 t) (thereE M) = some (some (i, .agg x.cells)) ∧ Ord (q.cancel t) (M.eraseIdx i) hor (k + 1))) ∨ (q.cancelE t = 8 ∧ findD Try.prog 24 (.int .u64 t) (thereE M) = some none ∧ Ord (q.cancel t) M hor (k + 1)) := by
  rcases Kq.cancel_cases h.good t with ⟨e, x, hx, hs, hp, hg⟩ | ⟨e, hn⟩
  · left
    subst hs
    obtain ⟨i, hi, hf⟩ := there_has (h.perm.mem_iff.mp hx) h.nd
    refine ⟨e, i, x, rfl, hf, hg, erase_perm' h.perm hp hi, h.hor, h.nx0, by have := h.nx; show q.nx ≤ _; omega, ?_⟩
    have := hp.length_eq
    have := h.len
    simp only [List.length_cons] at *
    omega
  · right
    exact ⟨e, there_not fun x hx => hn x (h.perm.mem_iff.mpr hx), by rw [cancel_none (by rw [e]; decide)]; exact h.up⟩
theorem ord_step {q : Kq} {M : List Item} {hor : Int} {k : Nat} (h : Ord q M hor k) :
    (q.stepE = 0 ∧ q.step.now = q.stepX.a ∧ q.now ≤ q.stepX.a ∧ (∀ z ∈ M, ilt z q.stepX = false) ∧ ∃ i, findD Try.prog 24 (.int .u64 q.stepX.s) (thereE M) = some (some (i, .agg q.stepX.cells)) ∧ Ord q.step (M.eraseIdx i) hor (k + 1)) ∨
    (q.stepE = 8 ∧ M = [] ∧ Ord q.step M hor (k + 1)) ∨ (q.stepE = 2 ∧ (∀ z ∈ M, hor < z.a) ∧ Ord q.step M hor (k + 1)) := by
  by_cases e : q.stepE = 0
  · left
    have s := Kq.step_ok0 e
    have hm : q.stepX ∈ q.l := s.perm.mem_iff.mpr List.mem_cons_self
    obtain ⟨i, hi, hf⟩ := there_has (h.perm.mem_iff.mp hm) h.nd
    refine ⟨e, s.now, (itemOk_iff.mp ((Kq.good_iff.mp h.good).2.items _ hm)).2.1, fun z hz => s.first z (h.perm.mem_iff.mpr hz), i, hf, s.good', erase_perm' h.perm s.perm hi, h.hor, h.nx0, by have := h.nx; show q.nx ≤ _; omega, ?_⟩
    have := s.perm.length_eq
    have := h.len
    simp only [List.length_cons] at *
    omega
  · right
    have e' := Kq.stepE_good h.good
    have hst : q.step = q := step_none e
    by_cases hl : q.l = []
    · left
      rw [if_pos hl] at e'
      refine ⟨e', ?_, by rw [hst]; exact h.up⟩
      have := h.perm
      rw [hl] at this
      exact (List.Perm.nil_eq this).symm
    · right
      rw [if_neg hl] at e'
      cases hg : decide ((g q.l 0).a > q.hor) with
      | false => rw [hg] at e'; exact absurd e' e
      | true =>
        rw [hg] at e'
        refine ⟨e', fun z hz => ?_, by rw [hst]; exact h.up⟩
        have hz' := h.perm.mem_iff.mpr hz
        obtain ⟨i, hi, rfl⟩ := List.getElem_of_mem hz'
        have h1 := heap_first (Kq.good_iff.mp h.good).1 i hi
        rw [g_of (List.getElem?_eq_getElem hi)] at h1
        have h2 := ilt_at h1
        have h3 := h.hor
        simp only [decide_eq_true_eq] at hg
        omega
theorem Ord.checkE {q : Kq} {M : List Item} {hor : Int} {k : Nat} (h : Ord q M hor k) : (q.checkE != 0) = false := by unfold Kq.checkE; rw [h.good]; rfl
theorem Ord.lenE {q : Kq} {M : List Item} {hor : Int} {k : Nat} (h : Ord q M hor k) : ((q.l.length : Int) != ((thereE M).length : Int)) = false := by rw [there_len, h.perm.length_eq]; exact bne_self_eq_false _
end Go.Det.Q

/- KernelDoes: the law's own text. -/
namespace Go.Det.Q
open Go Go.Det Go.Proofs
set_option maxRecDepth 4000
set_option maxHeartbeats 16000000
set_option linter.unusedVariables false
set_option linter.unusedSimpArgs false
end Go.Det.Q

/- KernelTells: the law's own text. -/
namespace Go.Det.Q
open Go Go.Det Go.Proofs
set_option maxRecDepth 4000
set_option maxHeartbeats 16000000
set_option linter.unusedVariables false
set_option linter.unusedSimpArgs false
end Go.Det.Q

/- KernelBack, KernelApart: the laws' own texts. -/
namespace Go.Det.Q
open Go Go.Det Go.Proofs
set_option maxRecDepth 4000
set_option maxHeartbeats 16000000
set_option linter.unusedVariables false
set_option linter.unusedSimpArgs false
theorem op_len_b {A H : DH} {bs : List (Nat × DObj)} {fs : List (DH → Prop)} {s : Sv} {l : List Item} {o : Oper} {x : Operand} {env : List DV} {K : DV → DH → Prop} (ho : o.op = .call ⟨.builtin .len, #[x], #[23]⟩) (hx : evalO env x = some s.dv) (hB : Bx A H bs fs) (hm : InF (Is s.dv l) fs) (hk : K (.int .i64 l.length) H) : OpWp Try.prog K5 o env H K := by
  refine op_at (v := .int .i64 l.length) (H' := H) ?_ hk
  have hl := len_t (hB.has hm)
  simp only [opD, ho, mover, reader, pureD, hx, Try.underlying23, hl]
  rfl
end Go.Det.Q

/- A row out of what the deterministic reading comes to: slices' weights handed on. -/
namespace Go.Det
set_option linter.unusedVariables false
set_option linter.unusedSimpArgs false
open Go.ChangeShapes Go.WideShapes Go.RowKit
section
variable {P : Program} {A : Type} {enc : TypeId × Value → A} {W : World}
end
end Go.Det
