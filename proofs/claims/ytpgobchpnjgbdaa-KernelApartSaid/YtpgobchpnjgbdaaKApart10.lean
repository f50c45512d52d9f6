/- Kernels: Cancel. -/
import Derived.Test.YtpgobchpnjgbdaaKApart9
namespace Go.Det.Q
open Go Go.Det Go.Proofs
set_option maxRecDepth 4000
set_option maxHeartbeats 8000000
set_option linter.unusedVariables false
set_option linter.unusedSimpArgs false
def cancelE (l : List Item) (nx now hor q : Int) : Int := if kOk l nx now hor then takeE l q else 1
def CancelS (H : DH) (l good : List Item) (nx now hor q : Int) (r : DV) (H' : DH) : Prop :=
  Above H H' ∧ ∃ s', r = .tuple [.agg [s', .int .u64 nx, .int .i64 now, .int .i64 hor], .int .i64 (cancelE l nx now hor q)] ∧ ItsF H H' s' (if cancelE l nx now hor q = 0 then good else l)
theorem cancel_bad {H H' : DH} {l good : List Item} {nx now hor q e : Int} {s' : DV} (he : cancelE l nx now hor q = e) (h0 : e ≠ 0) (ab : Above H H') (i : ItsF H H' s' l) : CancelS H l good nx now hor q (.tuple [.agg [s', .int .u64 nx, .int .i64 now, .int .i64 hor], .int .i64 e]) H' := by
  subst he
  unfold CancelS
  rw [if_neg h0]
  exact ⟨ab, s', rfl, i⟩
theorem cancel_good {H H' : DH} {l good : List Item} {nx now hor q : Int} {s' : DV} (he : cancelE l nx now hor q = 0) (ab : Above H H') (i : ItsF H H' s' good) : CancelS H l good nx now hor q (.tuple [.agg [s', .int .u64 nx, .int .i64 now, .int .i64 hor], .int .i64 0]) H' := by
  unfold CancelS
  rw [he]
  exact ⟨ab, s', rfl, i⟩
theorem takeE_two {l : List Item} (h : checkB l = true) (q : Int) : takeE l q = 0 ∨ takeE l q = 8 := by
  unfold takeE
  rw [if_pos h]
  split <;> simp
section
variable {H H1 : DH} {rx rb : DObj} (F : AfterC H H1 rx rb) {o d : DObj} {o' : Option DObj}
include F
theorem AfterC.ob4 : ((H1.new o).set H1.next o').obj (H.next + 1) = some rb := by
  rw [set_other (Nat.ne_of_lt F.lt), obj_new_lt F.lt]; exact F.ob
theorem AfterC.ltb4 : H.next + 1 < ((H1.new o).set H1.next o').next := Nat.lt_succ_of_lt F.lt
end
theorem oc4 {H1 : DH} {o : DObj} {o' : Option DObj} : ((H1.new o).set H1.next o').obj H1.next = o' := obj_setA
section
variable (H : DH) (p : Option (Nat × Nat × Nat)) (c : Nat) (ex : Bool) (l : List Item) (nx now hor q : Int) (hl : It H p c ex l) (hn : l.length ≤ 1000000)
include hl hn
theorem cancel40 : CallWp Try.prog K5 40 [.agg [.sl p l.length c ex, .int .u64 nx, .int .i64 now, .int .i64 hor], .int .u64 q] H (CancelS H l (takeV l q) nx now hor q) := by
  have hab2 : ∀ {a b : DObj}, Above H ((H.new a).new b) := fun {a b} => ((Above.refl H).new _).new _
  have hob2 : ∀ {a b : DObj}, ((H.new a).new b).obj (H.next + 1) = some b := fun {a b} => obj_here rfl
  have hox2 : ∀ {a b : DObj}, ((H.new a).new b).obj H.next = some a := fun {a b} => obj_skip (Nat.ne_of_lt (Nat.lt_succ_self _)) (obj_here rfl)
  have lt2 : ∀ {a b : DObj}, H.next + 1 < ((H.new a).new b).next := fun {a b} => Nat.lt_succ_self _
  cases hk : kOk l nx now hor with
  | false =>
    refine enter rfl Try.func40 rfl Try.ntmps40 rfl ?_
    dsimp only [List.cons_append, List.nil_append, List.length_cons, List.length_nil, List.replicate_succ, List.replicate_zero, Nat.reduceAdd, Nat.reduceSub]
    repeat' (first
      | dsimp only [putD, DV.cells, DH.new_next, DH.set_next, List.length_cons, List.length_nil, Nat.reduceAdd, List.set_cons_zero, List.set_cons_succ, getD_zero, getD_succ, fieldAt_zero, fieldAt_succ, thenD, blockD, retR]
      | (refine ⟨_, resOf_ct (loadD_at rfl (by repeat (first | with_reducible assumption | (with_reducible apply obj_here; with_reducible rfl) | with_reducible apply obj_set | (with_reducible apply obj_skip_lo; (· ((repeat (first | with_reducible assumption | with_reducible apply Lo.self | with_reducible apply Lo.new | with_reducible apply Lo.set | with_reducible apply Lo.self1 | with_reducible apply Lo.self2)); done))) | (with_reducible apply obj_past; (· ((first | with_reducible assumption | with_reducible apply ne_add1 | with_reducible apply ne_add1' | with_reducible apply ne_add2 | with_reducible apply ne_add2' | with_reducible apply ne_add12 | with_reducible apply ne_add21 | (with_reducible apply Lo.ne; (repeat (first | with_reducible assumption | with_reducible apply Lo.self | with_reducible apply Lo.new | with_reducible apply Lo.set | with_reducible apply Lo.self1 | with_reducible apply Lo.self2)); done) | (with_reducible apply Lo.ne1; (repeat (first | with_reducible assumption | with_reducible apply Lo.self | with_reducible apply Lo.new | with_reducible apply Lo.set | with_reducible apply Lo.self1 | with_reducible apply Lo.self2)); done) | (with_reducible apply Lo.ne'; (repeat (first | with_reducible assumption | with_reducible apply Lo.self | with_reducible apply Lo.new | with_reducible apply Lo.set | with_reducible apply Lo.self1 | with_reducible apply Lo.self2)); done) | (with_reducible apply Lo.ne1'; (repeat (first | with_reducible assumption | with_reducible apply Lo.self | with_reducible apply Lo.new | with_reducible apply Lo.set | with_reducible apply Lo.self1 | with_reducible apply Lo.self2)); done)); done))) | exact obj_here rfl)) rfl rfl), ?_⟩)
      | apply dwp_seq
      | apply dwp_region
      | apply ops_nil
      | (apply ops_plain; (· exact rfl))
      | (apply op_call; (· exact rfl); (· exact rfl); (· exact rfl); refine call_table (g := gKc) rfl (kc_t (⟨_, _, _, rfl, hl.mono (by first | exact hab4 | exact hab2)⟩ : Its _ (.sl p l.length c ex) l)) ?_; rw [hk, if_neg Bool.false_ne_true])
      | (apply op_call; (· exact rfl); (· exact rfl); (· exact rfl); refine (own64 _ p c ex l nx now hor (hl.mono (by first | exact hab4 | exact hab2)) hn).mono ?_; rintro r H5 ⟨ab5, s5, rfl, p5, c5, e5, rfl, it5, if5⟩; have i5 : ItsF _ H5 (.sl p5 l.length c5 e5) l := ⟨p5, c5, e5, rfl, it5, if5⟩; have aa5 : Above H H5 := Above.trans (by first | exact hab4 | exact hab2) ab5; have hob5 := ab5.obj (l := H.next + 1) (by first | exact F4.ltb4 | exact lt2) (by first | exact F4.ob4 | exact hob2); have lt5 : H.next + 1 < H5.next := Nat.lt_of_lt_of_le (by first | exact F4.ltb4 | exact lt2) ab5.le; have hlb5 : Lo H5 (H.next + 1) := lo lt5)
      | (apply op_load_at; (· exact rfl); (· exact rfl); (· repeat (first | with_reducible assumption | (with_reducible apply obj_here; with_reducible rfl) | with_reducible apply obj_set | (with_reducible apply obj_skip_lo; (· ((repeat (first | with_reducible assumption | with_reducible apply Lo.self | with_reducible apply Lo.new | with_reducible apply Lo.set | with_reducible apply Lo.self1 | with_reducible apply Lo.self2)); done))) | (with_reducible apply obj_past; (· ((first | with_reducible assumption | with_reducible apply ne_add1 | with_reducible apply ne_add1' | with_reducible apply ne_add2 | with_reducible apply ne_add2' | with_reducible apply ne_add12 | with_reducible apply ne_add21 | (with_reducible apply Lo.ne; (repeat (first | with_reducible assumption | with_reducible apply Lo.self | with_reducible apply Lo.new | with_reducible apply Lo.set | with_reducible apply Lo.self1 | with_reducible apply Lo.self2)); done) | (with_reducible apply Lo.ne1; (repeat (first | with_reducible assumption | with_reducible apply Lo.self | with_reducible apply Lo.new | with_reducible apply Lo.set | with_reducible apply Lo.self1 | with_reducible apply Lo.self2)); done) | (with_reducible apply Lo.ne'; (repeat (first | with_reducible assumption | with_reducible apply Lo.self | with_reducible apply Lo.new | with_reducible apply Lo.set | with_reducible apply Lo.self1 | with_reducible apply Lo.self2)); done) | (with_reducible apply Lo.ne1'; (repeat (first | with_reducible assumption | with_reducible apply Lo.self | with_reducible apply Lo.new | with_reducible apply Lo.set | with_reducible apply Lo.self1 | with_reducible apply Lo.self2)); done)); done))) | exact obj_here rfl)); (· exact rfl); (· exact rfl))
      | (apply op_store_at; (· exact rfl); (· exact rfl); (· exact rfl); (· repeat (first | with_reducible assumption | (with_reducible apply obj_here; with_reducible rfl) | with_reducible apply obj_set | (with_reducible apply obj_skip_lo; (· ((repeat (first | with_reducible assumption | with_reducible apply Lo.self | with_reducible apply Lo.new | with_reducible apply Lo.set | with_reducible apply Lo.self1 | with_reducible apply Lo.self2)); done))) | (with_reducible apply obj_past; (· ((first | with_reducible assumption | with_reducible apply ne_add1 | with_reducible apply ne_add1' | with_reducible apply ne_add2 | with_reducible apply ne_add2' | with_reducible apply ne_add12 | with_reducible apply ne_add21 | (with_reducible apply Lo.ne; (repeat (first | with_reducible assumption | with_reducible apply Lo.self | with_reducible apply Lo.new | with_reducible apply Lo.set | with_reducible apply Lo.self1 | with_reducible apply Lo.self2)); done) | (with_reducible apply Lo.ne1; (repeat (first | with_reducible assumption | with_reducible apply Lo.self | with_reducible apply Lo.new | with_reducible apply Lo.set | with_reducible apply Lo.self1 | with_reducible apply Lo.self2)); done) | (with_reducible apply Lo.ne'; (repeat (first | with_reducible assumption | with_reducible apply Lo.self | with_reducible apply Lo.new | with_reducible apply Lo.set | with_reducible apply Lo.self1 | with_reducible apply Lo.self2)); done) | (with_reducible apply Lo.ne1'; (repeat (first | with_reducible assumption | with_reducible apply Lo.self | with_reducible apply Lo.new | with_reducible apply Lo.set | with_reducible apply Lo.self1 | with_reducible apply Lo.self2)); done)); done))) | exact obj_here rfl)); (· exact rfl); (· exact rfl); (· exact rfl))
      | (apply op_at; (· exact rfl))
      | (apply dwp_cond_t; (· exact rfl); (· (first | with_reducible assumption | with_reducible rfl | decide)))
      | apply dwp_ret
      | fail)
    any_goals first | exact cancel_bad (by unfold cancelE; rw [hk]; first | rfl | exact hT) (by decide) (aa5.set (Nat.le_succ _) _) ((i5.set (by first | exact F4.ltb4 | exact lt2)).older (by first | exact hab4.le | exact hab2.le)) | skip
  | true =>
    rcases takeE_two (kOk_check hk) q with hT | hT
    · skip
      refine enter rfl Try.func40 rfl Try.ntmps40 rfl ?_
      dsimp only [List.cons_append, List.nil_append, List.length_cons, List.length_nil, List.replicate_succ, List.replicate_zero, Nat.reduceAdd, Nat.reduceSub]
      repeat' (first
        | dsimp only [putD, DV.cells, DH.new_next, DH.set_next, List.length_cons, List.length_nil, Nat.reduceAdd, List.set_cons_zero, List.set_cons_succ, getD_zero, getD_succ, fieldAt_zero, fieldAt_succ, thenD, blockD, retR]
        | (refine ⟨_, resOf_ct (loadD_at rfl (by repeat (first | with_reducible assumption | (with_reducible apply obj_here; with_reducible rfl) | with_reducible apply obj_set | (with_reducible apply obj_skip_lo; (· ((repeat (first | with_reducible assumption | with_reducible apply Lo.self | with_reducible apply Lo.new | with_reducible apply Lo.set | with_reducible apply Lo.self1 | with_reducible apply Lo.self2)); done))) | (with_reducible apply obj_past; (· ((first | with_reducible assumption | with_reducible apply ne_add1 | with_reducible apply ne_add1' | with_reducible apply ne_add2 | with_reducible apply ne_add2' | with_reducible apply ne_add12 | with_reducible apply ne_add21 | (with_reducible apply Lo.ne; (repeat (first | with_reducible assumption | with_reducible apply Lo.self | with_reducible apply Lo.new | with_reducible apply Lo.set | with_reducible apply Lo.self1 | with_reducible apply Lo.self2)); done) | (with_reducible apply Lo.ne1; (repeat (first | with_reducible assumption | with_reducible apply Lo.self | with_reducible apply Lo.new | with_reducible apply Lo.set | with_reducible apply Lo.self1 | with_reducible apply Lo.self2)); done) | (with_reducible apply Lo.ne'; (repeat (first | with_reducible assumption | with_reducible apply Lo.self | with_reducible apply Lo.new | with_reducible apply Lo.set | with_reducible apply Lo.self1 | with_reducible apply Lo.self2)); done) | (with_reducible apply Lo.ne1'; (repeat (first | with_reducible assumption | with_reducible apply Lo.self | with_reducible apply Lo.new | with_reducible apply Lo.set | with_reducible apply Lo.self1 | with_reducible apply Lo.self2)); done)); done))) | exact obj_here rfl)) rfl rfl), ?_⟩)
        | apply dwp_seq
        | apply dwp_region
        | apply ops_nil
        | (apply ops_plain; (· exact rfl))
        | (apply op_call; (· exact rfl); (· exact rfl); (· exact rfl); refine call_table (g := gKc) rfl (kc_t (⟨_, _, _, rfl, hl.mono (by first | exact hab4 | exact hab2)⟩ : Its _ (.sl p l.length c ex) l)) ?_; rw [hk, if_pos rfl])
        | (apply op_call; (· exact rfl); (· exact rfl); (· exact rfl); refine (CallWp.up upK5 (take_c q (⟨_, _, _, rfl, hl.mono hab2⟩ : Its _ (.sl p l.length c ex) l) hn)).mono ?_; rintro r H4 ⟨ab4, s4, rfl, p4, c4, e4, rfl, it4, if4⟩; rw [hT]; have F4 := AfterC.of ab4; have aa4 := F4.aa; have hob4 := F4.ob; have hox4 := F4.ox; have lt4 := F4.lt; have hlb4 : Lo H4 (H.next + 1) := lo lt4; have hlx4 : Lo H4 H.next := lo (Nat.lt_of_succ_lt lt4); have hab4 : ∀ {o o'}, Above H ((H4.new o).set H4.next o') := fun {o o'} => aa4.trans aboveQ)
        | (apply op_store_at; (· exact rfl); (· exact rfl); (· exact rfl); (· exact obj_here rfl); (· exact rfl); (· exact rfl); (· exact rfl))
        | (apply op_load_at; (· exact rfl); (· exact rfl); (· repeat (first | with_reducible assumption | (with_reducible apply obj_here; with_reducible rfl) | with_reducible apply obj_set | (with_reducible apply obj_skip_lo; (· ((repeat (first | with_reducible assumption | with_reducible apply Lo.self | with_reducible apply Lo.new | with_reducible apply Lo.set | with_reducible apply Lo.self1 | with_reducible apply Lo.self2)); done))) | (with_reducible apply obj_past; (· ((first | with_reducible assumption | with_reducible apply ne_add1 | with_reducible apply ne_add1' | with_reducible apply ne_add2 | with_reducible apply ne_add2' | with_reducible apply ne_add12 | with_reducible apply ne_add21 | (with_reducible apply Lo.ne; (repeat (first | with_reducible assumption | with_reducible apply Lo.self | with_reducible apply Lo.new | with_reducible apply Lo.set | with_reducible apply Lo.self1 | with_reducible apply Lo.self2)); done) | (with_reducible apply Lo.ne1; (repeat (first | with_reducible assumption | with_reducible apply Lo.self | with_reducible apply Lo.new | with_reducible apply Lo.set | with_reducible apply Lo.self1 | with_reducible apply Lo.self2)); done) | (with_reducible apply Lo.ne'; (repeat (first | with_reducible assumption | with_reducible apply Lo.self | with_reducible apply Lo.new | with_reducible apply Lo.set | with_reducible apply Lo.self1 | with_reducible apply Lo.self2)); done) | (with_reducible apply Lo.ne1'; (repeat (first | with_reducible assumption | with_reducible apply Lo.self | with_reducible apply Lo.new | with_reducible apply Lo.set | with_reducible apply Lo.self1 | with_reducible apply Lo.self2)); done)); done))) | exact obj_here rfl)); (· exact rfl); (· exact rfl))
        | (apply op_store_at; (· exact rfl); (· exact rfl); (· exact rfl); (· repeat (first | with_reducible assumption | (with_reducible apply obj_here; with_reducible rfl) | with_reducible apply obj_set | (with_reducible apply obj_skip_lo; (· ((repeat (first | with_reducible assumption | with_reducible apply Lo.self | with_reducible apply Lo.new | with_reducible apply Lo.set | with_reducible apply Lo.self1 | with_reducible apply Lo.self2)); done))) | (with_reducible apply obj_past; (· ((first | with_reducible assumption | with_reducible apply ne_add1 | with_reducible apply ne_add1' | with_reducible apply ne_add2 | with_reducible apply ne_add2' | with_reducible apply ne_add12 | with_reducible apply ne_add21 | (with_reducible apply Lo.ne; (repeat (first | with_reducible assumption | with_reducible apply Lo.self | with_reducible apply Lo.new | with_reducible apply Lo.set | with_reducible apply Lo.self1 | with_reducible apply Lo.self2)); done) | (with_reducible apply Lo.ne1; (repeat (first | with_reducible assumption | with_reducible apply Lo.self | with_reducible apply Lo.new | with_reducible apply Lo.set | with_reducible apply Lo.self1 | with_reducible apply Lo.self2)); done) | (with_reducible apply Lo.ne'; (repeat (first | with_reducible assumption | with_reducible apply Lo.self | with_reducible apply Lo.new | with_reducible apply Lo.set | with_reducible apply Lo.self1 | with_reducible apply Lo.self2)); done) | (with_reducible apply Lo.ne1'; (repeat (first | with_reducible assumption | with_reducible apply Lo.self | with_reducible apply Lo.new | with_reducible apply Lo.set | with_reducible apply Lo.self1 | with_reducible apply Lo.self2)); done)); done))) | exact obj_here rfl)); (· exact rfl); (· exact rfl); (· exact rfl))
        | (apply op_at; (· exact rfl))
        | (apply dwp_cond_f; (· exact rfl); (· (first | with_reducible assumption | with_reducible rfl | decide)))
        | apply dwp_skip
        | apply dwp_ret
        | fail)
      exact cancel_good (by unfold cancelE; rw [hk]; exact hT) ((Above.set hab4 (Nat.le_refl _) _).set (Nat.le_succ _) _) (((ItsF.set (ItsF.mono ⟨p4, c4, e4, rfl, it4, if4⟩ aboveQ) (Nat.lt_of_succ_lt lt2)).set lt2).older hab2.le)
    · skip
      refine enter rfl Try.func40 rfl Try.ntmps40 rfl ?_
      dsimp only [List.cons_append, List.nil_append, List.length_cons, List.length_nil, List.replicate_succ, List.replicate_zero, Nat.reduceAdd, Nat.reduceSub]
      repeat' (first
        | dsimp only [putD, DV.cells, DH.new_next, DH.set_next, List.length_cons, List.length_nil, Nat.reduceAdd, List.set_cons_zero, List.set_cons_succ, getD_zero, getD_succ, fieldAt_zero, fieldAt_succ, thenD, blockD, retR]
        | (refine ⟨_, resOf_ct (loadD_at rfl (by repeat (first | with_reducible assumption | (with_reducible apply obj_here; with_reducible rfl) | with_reducible apply obj_set | (with_reducible apply obj_skip_lo; (· ((repeat (first | with_reducible assumption | with_reducible apply Lo.self | with_reducible apply Lo.new | with_reducible apply Lo.set | with_reducible apply Lo.self1 | with_reducible apply Lo.self2)); done))) | (with_reducible apply obj_past; (· ((first | with_reducible assumption | with_reducible apply ne_add1 | with_reducible apply ne_add1' | with_reducible apply ne_add2 | with_reducible apply ne_add2' | with_reducible apply ne_add12 | with_reducible apply ne_add21 | (with_reducible apply Lo.ne; (repeat (first | with_reducible assumption | with_reducible apply Lo.self | with_reducible apply Lo.new | with_reducible apply Lo.set | with_reducible apply Lo.self1 | with_reducible apply Lo.self2)); done) | (with_reducible apply Lo.ne1; (repeat (first | with_reducible assumption | with_reducible apply Lo.self | with_reducible apply Lo.new | with_reducible apply Lo.set | with_reducible apply Lo.self1 | with_reducible apply Lo.self2)); done) | (with_reducible apply Lo.ne'; (repeat (first | with_reducible assumption | with_reducible apply Lo.self | with_reducible apply Lo.new | with_reducible apply Lo.set | with_reducible apply Lo.self1 | with_reducible apply Lo.self2)); done) | (with_reducible apply Lo.ne1'; (repeat (first | with_reducible assumption | with_reducible apply Lo.self | with_reducible apply Lo.new | with_reducible apply Lo.set | with_reducible apply Lo.self1 | with_reducible apply Lo.self2)); done)); done))) | exact obj_here rfl)) rfl rfl), ?_⟩)
        | apply dwp_seq
        | apply dwp_region
        | apply ops_nil
        | (apply ops_plain; (· exact rfl))
        | (apply op_call; (· exact rfl); (· exact rfl); (· exact rfl); refine call_table (g := gKc) rfl (kc_t (⟨_, _, _, rfl, hl.mono (by first | exact hab4 | exact hab2)⟩ : Its _ (.sl p l.length c ex) l)) ?_; rw [hk, if_pos rfl])
        | (apply op_call; (· exact rfl); (· exact rfl); (· exact rfl); refine (own64 _ p c ex l nx now hor (hl.mono (by first | exact hab4 | exact hab2)) hn).mono ?_; rintro r H5 ⟨ab5, s5, rfl, p5, c5, e5, rfl, it5, if5⟩; have i5 : ItsF _ H5 (.sl p5 l.length c5 e5) l := ⟨p5, c5, e5, rfl, it5, if5⟩; have aa5 : Above H H5 := Above.trans (by first | exact hab4 | exact hab2) ab5; have hob5 := ab5.obj (l := H.next + 1) (by first | exact F4.ltb4 | exact lt2) (by first | exact F4.ob4 | exact hob2); have lt5 : H.next + 1 < H5.next := Nat.lt_of_lt_of_le (by first | exact F4.ltb4 | exact lt2) ab5.le; have hlb5 : Lo H5 (H.next + 1) := lo lt5)
        | (apply op_call; (· exact rfl); (· exact rfl); (· exact rfl); refine (CallWp.up upK5 (take_c q (⟨_, _, _, rfl, hl.mono hab2⟩ : Its _ (.sl p l.length c ex) l) hn)).mono ?_; rintro r H4 ⟨ab4, s4, rfl, p4, c4, e4, rfl, it4, if4⟩; rw [hT]; have F4 := AfterC.of ab4; have aa4 := F4.aa; have hob4 := F4.ob; have hox4 := F4.ox; have lt4 := F4.lt; have hlb4 : Lo H4 (H.next + 1) := lo lt4; have hlx4 : Lo H4 H.next := lo (Nat.lt_of_succ_lt lt4); have hab4 : ∀ {o o'}, Above H ((H4.new o).set H4.next o') := fun {o o'} => aa4.trans aboveQ)
        | (apply op_store_at; (· exact rfl); (· exact rfl); (· exact rfl); (· exact obj_here rfl); (· exact rfl); (· exact rfl); (· exact rfl))
        | (apply op_load_at; (· exact rfl); (· exact rfl); (· repeat (first | with_reducible assumption | (with_reducible apply obj_here; with_reducible rfl) | with_reducible apply obj_set | (with_reducible apply obj_skip_lo; (· ((repeat (first | with_reducible assumption | with_reducible apply Lo.self | with_reducible apply Lo.new | with_reducible apply Lo.set | with_reducible apply Lo.self1 | with_reducible apply Lo.self2)); done))) | (with_reducible apply obj_past; (· ((first | with_reducible assumption | with_reducible apply ne_add1 | with_reducible apply ne_add1' | with_reducible apply ne_add2 | with_reducible apply ne_add2' | with_reducible apply ne_add12 | with_reducible apply ne_add21 | (with_reducible apply Lo.ne; (repeat (first | with_reducible assumption | with_reducible apply Lo.self | with_reducible apply Lo.new | with_reducible apply Lo.set | with_reducible apply Lo.self1 | with_reducible apply Lo.self2)); done) | (with_reducible apply Lo.ne1; (repeat (first | with_reducible assumption | with_reducible apply Lo.self | with_reducible apply Lo.new | with_reducible apply Lo.set | with_reducible apply Lo.self1 | with_reducible apply Lo.self2)); done) | (with_reducible apply Lo.ne'; (repeat (first | with_reducible assumption | with_reducible apply Lo.self | with_reducible apply Lo.new | with_reducible apply Lo.set | with_reducible apply Lo.self1 | with_reducible apply Lo.self2)); done) | (with_reducible apply Lo.ne1'; (repeat (first | with_reducible assumption | with_reducible apply Lo.self | with_reducible apply Lo.new | with_reducible apply Lo.set | with_reducible apply Lo.self1 | with_reducible apply Lo.self2)); done)); done))) | exact obj_here rfl)); (· exact rfl); (· exact rfl))
        | (apply op_store_at; (· exact rfl); (· exact rfl); (· exact rfl); (· repeat (first | with_reducible assumption | (with_reducible apply obj_here; with_reducible rfl) | with_reducible apply obj_set | (with_reducible apply obj_skip_lo; (· ((repeat (first | with_reducible assumption | with_reducible apply Lo.self | with_reducible apply Lo.new | with_reducible apply Lo.set | with_reducible apply Lo.self1 | with_reducible apply Lo.self2)); done))) | (with_reducible apply obj_past; (· ((first | with_reducible assumption | with_reducible apply ne_add1 | with_reducible apply ne_add1' | with_reducible apply ne_add2 | with_reducible apply ne_add2' | with_reducible apply ne_add12 | with_reducible apply ne_add21 | (with_reducible apply Lo.ne; (repeat (first | with_reducible assumption | with_reducible apply Lo.self | with_reducible apply Lo.new | with_reducible apply Lo.set | with_reducible apply Lo.self1 | with_reducible apply Lo.self2)); done) | (with_reducible apply Lo.ne1; (repeat (first | with_reducible assumption | with_reducible apply Lo.self | with_reducible apply Lo.new | with_reducible apply Lo.set | with_reducible apply Lo.self1 | with_reducible apply Lo.self2)); done) | (with_reducible apply Lo.ne'; (repeat (first | with_reducible assumption | with_reducible apply Lo.self | with_reducible apply Lo.new | with_reducible apply Lo.set | with_reducible apply Lo.self1 | with_reducible apply Lo.self2)); done) | (with_reducible apply Lo.ne1'; (repeat (first | with_reducible assumption | with_reducible apply Lo.self | with_reducible apply Lo.new | with_reducible apply Lo.set | with_reducible apply Lo.self1 | with_reducible apply Lo.self2)); done)); done))) | exact obj_here rfl)); (· exact rfl); (· exact rfl); (· exact rfl))
        | (apply op_at; (· exact rfl))
        | (apply dwp_cond_t; (· exact rfl); (· (first | with_reducible assumption | with_reducible rfl | decide)))
        | (apply dwp_cond_f; (· exact rfl); (· (first | with_reducible assumption | with_reducible rfl | decide)))
        | apply dwp_skip
        | apply dwp_ret
        | fail)
      any_goals first | exact cancel_bad (by unfold cancelE; rw [hk]; first | rfl | exact hT) (by decide) (aa5.set (Nat.le_succ _) _) ((i5.set (by first | exact F4.ltb4 | exact lt2)).older (by first | exact hab4.le | exact hab2.le)) | skip
end
end Go.Det.Q

/- Kernels: Step. -/
namespace Go.Det.Q
open Go Go.Det Go.Proofs
set_option maxRecDepth 4000
set_option maxHeartbeats 8000000
set_option linter.unusedVariables false
set_option linter.unusedSimpArgs false
def stepE (l : List Item) (nx now hor : Int) : Int := if peekE l nx now hor = 0 then (if decide ((g l 0).a > hor) then 2 else 0) else peekE l nx now hor
def StepS (H : DH) (l good : List Item) (nx now hor : Int) (r : DV) (H' : DH) : Prop :=
  Above H H' ∧ ∃ s', r = .tuple [.agg [s', .int .u64 nx, .int .i64 (if stepE l nx now hor = 0 then (g l 0).a else now), .int .i64 hor], .agg (if stepE l nx now hor = 0 then g l 0 else zeroI).cells, .int .i64 (stepE l nx now hor)] ∧ ItsF H H' s' (if stepE l nx now hor = 0 then good else l)
theorem peek_ok {l : List Item} {nx now hor : Int} (h : peekE l nx now hor = 0) : kOk l nx now hor = true ∧ l ≠ [] := by
  unfold peekE at h
  split at h
  · rename_i hk
    split at h
    · cases h
    · rename_i hne; exact ⟨hk, hne⟩
  · cases h
section
variable {H : DH} {a b d z : DObj} {o : Option DObj}
theorem s4_0 : (((((H.new a).new b).new d).new z).set (H.next + 1 + 1 + 1) o).obj H.next = some a := by
  rw [set_other (show H.next ≠ H.next + 1 + 1 + 1 by omega), obj_new_lt (show H.next < H.next + 1 + 1 + 1 by omega), obj_new_lt (show H.next < H.next + 1 + 1 by omega), obj_new_lt (show H.next < H.next + 1 by omega)]; exact obj_here rfl
theorem s4_1 : (((((H.new a).new b).new d).new z).set (H.next + 1 + 1 + 1) o).obj (H.next + 1) = some b := by
  rw [set_other (show H.next + 1 ≠ H.next + 1 + 1 + 1 by omega), obj_new_lt (show H.next + 1 < H.next + 1 + 1 + 1 by omega), obj_new_lt (show H.next + 1 < H.next + 1 + 1 by omega)]; exact obj_here rfl
theorem s4_2 : (((((H.new a).new b).new d).new z).set (H.next + 1 + 1 + 1) o).obj (H.next + 1 + 1) = some d := by
  rw [set_other (show H.next + 1 + 1 ≠ H.next + 1 + 1 + 1 by omega), obj_new_lt (show H.next + 1 + 1 < H.next + 1 + 1 + 1 by omega)]; exact obj_here rfl
theorem s4_3 : (((((H.new a).new b).new d).new z).set (H.next + 1 + 1 + 1) o).obj (H.next + 1 + 1 + 1) = o := obj_setA
theorem s4_above : Above H (((((H.new a).new b).new d).new z).set (H.next + 1 + 1 + 1) o) := (((((Above.refl H).new _).new _).new _).new _).set (show H.next ≤ H.next + 1 + 1 + 1 by omega) _
theorem s3_above : Above H (((H.new a).new b).new d) := (((Above.refl H).new _).new _).new _
end
/-- What lies where, behind what grew from four blocks. -/
structure AfterD (H H1 : DH) (a b d : DObj) (o : Option DObj) : Prop where
  aa : Above H H1
  o0 : H1.obj H.next = some a
  o1 : H1.obj (H.next + 1) = some b
  o2 : H1.obj (H.next + 1 + 1) = some d
  o3 : ∀ x, o = some x → H1.obj (H.next + 1 + 1 + 1) = some x
  lt : H.next + 1 + 1 + 1 < H1.next
theorem AfterD.of {H H1 : DH} {a b d z : DObj} {o : Option DObj} (ab : Above (((((H.new a).new b).new d).new z).set (H.next + 1 + 1 + 1) o) H1) : AfterD H H1 a b d o where
  aa := s4_above.trans ab
  o0 := ab.obj (show H.next < H.next + 1 + 1 + 1 + 1 by omega) s4_0
  o1 := ab.obj (show H.next + 1 < H.next + 1 + 1 + 1 + 1 by omega) s4_1
  o2 := ab.obj (show H.next + 1 + 1 < H.next + 1 + 1 + 1 + 1 by omega) s4_2
  o3 := fun x hx => ab.obj (show H.next + 1 + 1 + 1 < H.next + 1 + 1 + 1 + 1 by omega) (s4_3.trans hx)
  lt := Nat.lt_of_lt_of_le (show H.next + 1 + 1 + 1 < H.next + 1 + 1 + 1 + 1 by omega) ab.le
section
variable (H : DH) (p : Option (Nat × Nat × Nat)) (c : Nat) (ex : Bool) (l : List Item) (nx now hor : Int) (hl : It H p c ex l) (hn : l.length ≤ 1000000)
include hl hn
end
end Go.Det.Q

/- Kernels: the reference's Step. -/
namespace Go.Det.Q
open Go Go.Det Go.Proofs
set_option maxRecDepth 4000
set_option maxHeartbeats 8000000
set_option linter.unusedVariables false
set_option linter.unusedSimpArgs false
structure AfterE (H H1 : DH) (a b d : DObj) : Prop where
  aa : Above H H1
  o0 : H1.obj H.next = some a
  o1 : H1.obj (H.next + 1) = some b
  o2 : H1.obj (H.next + 1 + 1) = some d
  lt : H.next + 1 + 1 < H1.next
theorem AfterE.of {H H1 : DH} {a b d : DObj} (ab : Above (((H.new a).new b).new d) H1) : AfterE H H1 a b d where
  aa := s3_above.trans ab
  o0 := ab.obj (show H.next < H.next + 1 + 1 + 1 by omega) (by rw [obj_new_lt (show H.next < H.next + 1 + 1 by omega), obj_new_lt (show H.next < H.next + 1 by omega)]; exact obj_here rfl)
  o1 := ab.obj (show H.next + 1 < H.next + 1 + 1 + 1 by omega) (by rw [obj_new_lt (show H.next + 1 < H.next + 1 + 1 by omega)]; exact obj_here rfl)
  o2 := ab.obj (show H.next + 1 + 1 < H.next + 1 + 1 + 1 by omega) (obj_here rfl)
  lt := Nat.lt_of_lt_of_le (show H.next + 1 + 1 < H.next + 1 + 1 + 1 by omega) ab.le
structure AfterF (H H1 H6 : DH) (a b d : DObj) (o' o2' : Option DObj) : Prop where
  aa : Above H H6
  oc : ∀ x, o' = some x → H6.obj H1.next = some x
  od : ∀ x, o2' = some x → H6.obj (H1.next + 1) = some x
  o1 : H6.obj (H.next + 1) = some b
  o2 : H6.obj (H.next + 1 + 1) = some d
  lt : H1.next + 1 < H6.next
theorem AfterF.of {H H1 H6 : DH} {a b d o z : DObj} {o' o2' : Option DObj} (F : AfterE H H1 a b d) (ab : Above ((((H1.new o).set H1.next o').new z).set (H1.next + 1) o2') H6) : AfterF H H1 H6 a b d o' o2' where
  aa := (((F.aa.trans aboveQ).new _).set (Nat.le_trans F.aa.le (Nat.le_succ _)) _).trans ab
  oc := fun x hx => ab.obj (show H1.next < H1.next + 1 + 1 by omega) (by rw [set_other (show H1.next ≠ H1.next + 1 by omega), obj_new_lt (show H1.next < H1.next + 1 by omega)]; exact oc4.trans hx)
  od := fun x hx => ab.obj (show H1.next + 1 < H1.next + 1 + 1 by omega) (obj_setA.trans hx)
  o1 := ab.obj (show H.next + 1 < H1.next + 1 + 1 by have := F.lt; omega) (by have := F.lt; rw [set_other (show H.next + 1 ≠ H1.next + 1 by omega), obj_new_lt (show H.next + 1 < H1.next + 1 by omega), set_other (show H.next + 1 ≠ H1.next by omega), obj_new_lt (show H.next + 1 < H1.next by omega)]; exact F.o1)
  o2 := ab.obj (show H.next + 1 + 1 < H1.next + 1 + 1 by have := F.lt; omega) (by have := F.lt; rw [set_other (show H.next + 1 + 1 ≠ H1.next + 1 by omega), obj_new_lt (show H.next + 1 + 1 < H1.next + 1 by omega), set_other (show H.next + 1 + 1 ≠ H1.next by omega), obj_new_lt (show H.next + 1 + 1 < H1.next by omega)]; exact F.o2)
  lt := Nat.lt_of_lt_of_le (show H1.next + 1 < H1.next + 1 + 1 by omega) ab.le
section
variable (H : DH) (p : Option (Nat × Nat × Nat)) (c : Nat) (ex : Bool) (l : List Item) (nx now hor : Int) (hl : It H p c ex l) (hn : l.length ≤ 1000000)
include hl hn
end
end Go.Det.Q

/- Arguments. -/
namespace Go.Det.Q
open Go Go.Det Go.Proofs
set_option maxRecDepth 4000
set_option linter.unusedVariables false
set_option linter.unusedSimpArgs false
def i64ok (x : Int) : Prop := -9223372036854775808 ≤ x ∧ x ≤ 9223372036854775807
def u64ok (x : Int) : Prop := 0 ≤ x ∧ x ≤ 18446744073709551615
theorem i64_of {x : Int} (h : (Lit.int .i64 x).wf = true) : i64ok x := by
  simp [Lit.wf, IntKind.min, IntKind.max, IntKind.signed, IntKind.bits] at h
  exact h
theorem u64_of {x : Int} (h : (Lit.int .u64 x).wf = true) : u64ok x := by
  simp [Lit.wf, IntKind.min, IntKind.max, IntKind.signed, IntKind.bits] at h
  unfold u64ok
  omega
structure Item.ok (x : Item) : Prop where
  a : i64ok x.a
  c : i64ok x.c
  s : u64ok x.s
  w : i64ok x.w
  h : i64ok x.h
  n : u64ok x.n
theorem item_in {H : DH} {cs : List DV} (h : Typed Try.prog H 26 cs) : ∃ x : Item, cs = x.cells ∧ x.ok := by
  obtain ⟨h1, h2⟩ := typed_struct (fs := _) Try.underlying26 h
  have hsz : Try.prog.cellsOf 26 = 6 := by kernel_rfl
  have c2 : Try.prog.cellsOf 2 = 1 := by kernel_rfl
  have c3 : Try.prog.cellsOf 3 = 1 := by kernel_rfl
  have c24 : Try.prog.cellsOf 24 = 1 := by kernel_rfl
  rw [hsz] at h1
  obtain ⟨x0, x1, x2, x3, x4, x5, rfl⟩ := len6 h1
  simp only [List.forall_mem_cons, c2, c3, c24, List.drop_zero, List.drop_succ_cons, List.take_succ_cons, List.take_zero] at h2
  obtain ⟨t0, t1, t2, t3, t4, t5, _⟩ := h2
  obtain ⟨a, e0, w0⟩ := typed_int Try.underlying2 t0
  obtain ⟨b, e1, w1⟩ := typed_int Try.underlying3 t1
  obtain ⟨c, e2, w2⟩ := typed_int Try.underlying24 t2
  obtain ⟨d, e3, w3⟩ := typed_int Try.underlying3 t3
  obtain ⟨e, e4, w4⟩ := typed_int Try.underlying3 t4
  obtain ⟨f, e5, w5⟩ := typed_int Try.underlying24 t5
  cases e0; cases e1; cases e2; cases e3; cases e4; cases e5
  exact ⟨⟨a, b, c, d, e, f⟩, rfl, ⟨i64_of w0, i64_of w1, u64_of w2, i64_of w3, i64_of w4, u64_of w5⟩⟩
theorem items_rows {H : DH} : ∀ (rs : List (List DV)), (∀ r ∈ rs, Typed Try.prog H 26 r) → ∃ l : List Item, rs = l.map Item.cells ∧ ∀ x ∈ l, x.ok
  | [], _ => ⟨[], rfl, fun a h => by cases h⟩
  | r :: rs, h => by
    obtain ⟨x, hx, hok⟩ := item_in (h r (by simp))
    obtain ⟨l, hl, hall⟩ := items_rows rs fun r' hr => h r' (by simp [hr])
    exact ⟨x :: l, by rw [hx, hl]; rfl, fun y hy => by
      rcases List.mem_cons.mp hy with rfl | hy
      · exact hok
      · exact hall y hy⟩
theorem items_typed {H : DH} (hw : WF H) {d : DV} (h' : Typed Try.prog H 23 [d]) : ∃ p c ex l, d = .sl p l.length c ex ∧ It H p c ex l ∧ ∀ x ∈ l, x.ok := by
  have hsz : Try.prog.cellsOf 26 = 6 := by kernel_rfl
  rcases typed_slice Try.underlying23 h' with h | ⟨l, n, rs, h, ho, hn, hm, hr⟩
  · cases h
    exact ⟨none, 0, true, [], rfl, .nil0 H, fun a ha => by cases ha⟩
  · rw [hsz] at h ho
    cases h
    obtain ⟨L, hL, hall⟩ := items_rows (rs.take n) (fun r hr' => by
      obtain ⟨i, hi, rfl⟩ := List.getElem_of_mem (List.mem_of_mem_take hr')
      exact hr i _ (List.getElem?_eq_getElem hi))
    have hlen : L.length = n := by
      have := congrArg List.length hL
      rw [List.length_map, List.length_take] at this
      omega
    exact ⟨some (l, 0, 6), rs.length, true, L, by rw [hlen], ⟨.at (hw _ _ ho) ho (by rw [List.length_map, hlen]; omega) (by rw [List.length_map, hlen, List.drop_zero, hL]), fun h => (by cases h), by rw [hlen]; omega, by rw [hlen]; exact hn⟩, hall⟩
theorem int_arg {H : DH} {d : DV} (h : TArg Try.prog H 3 d) : ∃ x, d = .int .i64 x ∧ i64ok x := by
  obtain ⟨x, e, hw⟩ := typed_int Try.underlying3 (targ_one (by rw [Try.underlying3]; simp) (by rw [Try.underlying3]; simp) h)
  cases e; exact ⟨x, rfl, i64_of hw⟩
theorem i64_arg {H : DH} {d : DV} (h : TArg Try.prog H 2 d) : ∃ x, d = .int .i64 x ∧ i64ok x := by
  obtain ⟨x, e, hw⟩ := typed_int Try.underlying2 (targ_one (by rw [Try.underlying2]; simp) (by rw [Try.underlying2]; simp) h)
  cases e; exact ⟨x, rfl, i64_of hw⟩
theorem u64_arg {H : DH} {d : DV} (h : TArg Try.prog H 24 d) : ∃ x, d = .int .u64 x ∧ u64ok x := by
  obtain ⟨x, e, hw⟩ := typed_int Try.underlying24 (targ_one (by rw [Try.underlying24]; simp) (by rw [Try.underlying24]; simp) h)
  cases e; exact ⟨x, rfl, u64_of hw⟩
end Go.Det.Q

/- Kernels: arguments; what both texts come to is alike. -/
namespace Go.Det.Q
open Go Go.Det Go.Proofs
set_option maxRecDepth 4000
set_option maxHeartbeats 8000000
set_option linter.unusedVariables false
set_option linter.unusedSimpArgs false
theorem len4 {cs : List DV} (h : cs.length = 4) : ∃ a b c d, cs = [a, b, c, d] := by
  match cs, h with
  | [a, b, c, d], _ => exact ⟨a, b, c, d, rfl⟩
theorem kern_arg {H : DH} (hw : WF H) {d : DV} (h : TArg Try.prog H 48 d) : ∃ p c ex l nx now hor, d = .agg [.sl p l.length c ex, .int .u64 nx, .int .i64 now, .int .i64 hor] ∧ It H p c ex l ∧ (∀ x ∈ l, x.ok) ∧ u64ok nx ∧ i64ok now ∧ i64ok hor := by
  obtain ⟨cs, rfl, t⟩ := targ_agg Try.underlying48 h
  obtain ⟨h1, h2⟩ := typed_struct (fs := _) Try.underlying48 t
  have hsz : Try.prog.cellsOf 48 = 4 := by kernel_rfl
  have c2 : Try.prog.cellsOf 2 = 1 := by kernel_rfl
  have c23 : Try.prog.cellsOf 23 = 1 := by kernel_rfl
  have c24 : Try.prog.cellsOf 24 = 1 := by kernel_rfl
  rw [hsz] at h1
  obtain ⟨x0, x1, x2, x3, rfl⟩ := len4 h1
  simp only [List.forall_mem_cons, c2, c23, c24, List.drop_zero, List.drop_succ_cons, List.take_succ_cons, List.take_zero] at h2
  obtain ⟨t0, t1, t2, t3, _⟩ := h2
  obtain ⟨p, c, ex, l, rfl, hl, hall⟩ := items_typed hw t0
  obtain ⟨nx, e1, w1⟩ := typed_int Try.underlying24 t1
  obtain ⟨now, e2, w2⟩ := typed_int Try.underlying2 t2
  obtain ⟨hor, e3, w3⟩ := typed_int Try.underlying2 t3
  cases e1; cases e2; cases e3
  exact ⟨p, c, ex, l, nx, now, hor, rfl, hl, hall, u64_of w1, i64_of w2, i64_of w3⟩
theorem sorted_heap {l : List Item} (h : Sorted l) : Heap l := by
  intro i h0 hi
  unfold okAt
  have hj : (i - 1) / 2 < l.length := by omega
  have e1 : g l i = l[i] := g_of (List.getElem?_eq_getElem hi)
  have e2 : g l ((i - 1) / 2) = l[(i - 1) / 2] := g_of (List.getElem?_eq_getElem hj)
  rw [e1, e2]
  exact (List.pairwise_iff_getElem.mp h) _ _ hj hi (by omega)
/-! ### Post -/
def pN (l : List Item) (nx now hor a k : Int) : Int := if postE l nx now hor a k = 0 then nx + 1 else nx
def pQ (l : List Item) (nx now hor a k : Int) : Int := if postE l nx now hor a k = 0 then nx else 0
def pL (l good : List Item) (nx now hor a k : Int) : List Item := if postE l nx now hor a k = 0 then good else l
theorem PostS.out {H H' : DH} {l good : List Item} {nx now hor a k : Int} {r : DV} (h : PostS H l good nx now hor a k r H') :
    Above H H' ∧ ∃ s', r = .tuple [.agg [s', .int .u64 (pN l nx now hor a k), .int .i64 now, .int .i64 hor], .int .u64 (pQ l nx now hor a k), .int .i64 (postE l nx now hor a k)] ∧ ItsF H H' s' (pL l good nx now hor a k) := h
theorem post_zero {l : List Item} {nx now hor a k : Int} (h : postE l nx now hor a k = 0) : kOk l nx now hor = true ∧ pushE l = 0 := by
  unfold postE at h
  split at h
  · rename_i hk
    refine ⟨hk, ?_⟩
    split at h
    · cases h
    · split at h
      · cases h
      · split at h
        · cases h
        · exact h
  · cases h
/-! ### Cancel -/
def cL (l good : List Item) (nx now hor q : Int) : List Item := if cancelE l nx now hor q = 0 then good else l
theorem CancelS.out {H H' : DH} {l good : List Item} {nx now hor q : Int} {r : DV} (h : CancelS H l good nx now hor q r H') :
    Above H H' ∧ ∃ s', r = .tuple [.agg [s', .int .u64 nx, .int .i64 now, .int .i64 hor], .int .i64 (cancelE l nx now hor q)] ∧ ItsF H H' s' (cL l good nx now hor q) := h
theorem cancel_zero {l : List Item} {nx now hor q : Int} (h : cancelE l nx now hor q = 0) : takeE l q = 0 := by
  unfold cancelE at h
  split at h
  · exact h
  · cases h
/-! ### Step -/
def sW (l : List Item) (nx now hor : Int) : Int := if stepE l nx now hor = 0 then (g l 0).a else now
def sX (l : List Item) (nx now hor : Int) : Item := if stepE l nx now hor = 0 then g l 0 else zeroI
def sL (l good : List Item) (nx now hor : Int) : List Item := if stepE l nx now hor = 0 then good else l
theorem StepS.out {H H' : DH} {l good : List Item} {nx now hor : Int} {r : DV} (h : StepS H l good nx now hor r H') :
    Above H H' ∧ ∃ s', r = .tuple [.agg [s', .int .u64 nx, .int .i64 (sW l nx now hor), .int .i64 hor], .agg (sX l nx now hor).cells, .int .i64 (stepE l nx now hor)] ∧ ItsF H H' s' (sL l good nx now hor) := h
theorem step_zero {l : List Item} {nx now hor : Int} (h : stepE l nx now hor = 0) : popE l = 0 := by
  unfold stepE at h
  split at h
  · rename_i he
    obtain ⟨hk, hne⟩ := peek_ok he
    exact popE_ok (kOk_check hk) hne
  · rename_i he; exact absurd h he
end Go.Det.Q

/- Boxes: what a function's variables that live in the heap hold, and what is known of the heap besides. -/
namespace Go.Det
set_option linter.unusedVariables false
set_option linter.unusedSimpArgs false
/-- What hangs on the places S alone. -/
def Stay (S : Nat → Prop) (p : DH → Prop) : Prop := ∀ H H' : DH, H.next ≤ H'.next → (∀ l, S l → H'.obj l = H.obj l) → p H → p H'
structure Fact (H : DH) (bs : List (Nat × DObj)) (f : DH → Prop) : Prop where
  ex : ∃ S, Stay S f ∧ f H ∧ (∀ l, S l → l < H.next) ∧ ∀ b ∈ bs, ¬ S b.1
/-- Behind a heap A there are boxes, and things known that hang on no box. -/
structure Bx (A H : DH) (bs : List (Nat × DObj)) (fs : List (DH → Prop)) : Prop where
  ab : Above A H
  obj : ∀ b ∈ bs, A.next ≤ b.1 ∧ b.1 < H.next ∧ H.obj b.1 = some b.2
  nd : (bs.map (·.1)).Nodup
  fact : ∀ f ∈ fs, Fact H bs f
inductive At (b : Nat) (o : DObj) : List (Nat × DObj) → Prop where
  | here {l} : At b o ((b, o) :: l)
  | there {x l} (h : At b o l) : At b o (x :: l)
theorem At.mem {b : Nat} {o : DObj} {l : List (Nat × DObj)} (h : At b o l) : (b, o) ∈ l := by
  induction h with
  | here => simp
  | there _ ih => simp [ih]
inductive Upd (b : Nat) (o o' : DObj) : List (Nat × DObj) → List (Nat × DObj) → Prop where
  | here {l} : Upd b o o' ((b, o) :: l) ((b, o') :: l)
  | there {x l l'} (h : Upd b o o' l l') : Upd b o o' (x :: l) (x :: l')
theorem Upd.at {b : Nat} {o o' : DObj} {l l' : List (Nat × DObj)} (h : Upd b o o' l l') : At b o l := by
  induction h with
  | here => exact .here
  | there _ ih => exact .there ih
theorem Upd.map {b : Nat} {o o' : DObj} {l l' : List (Nat × DObj)} (h : Upd b o o' l l') : l'.map (·.1) = l.map (·.1) := by
  induction h with
  | here => rfl
  | there _ ih => simp [ih]
theorem Upd.mem {b : Nat} {o o' : DObj} {l l' : List (Nat × DObj)} (h : Upd b o o' l l') (nd : (l.map (·.1)).Nodup) : ∀ x ∈ l', x = (b, o') ∨ (x ∈ l ∧ x.1 ≠ b) := by
  induction h with
  | here =>
    intro x hx
    simp only [List.map_cons, List.nodup_cons, List.mem_map, not_exists, not_and] at nd
    rcases List.mem_cons.mp hx with rfl | hx
    · exact .inl rfl
    · exact .inr ⟨List.mem_cons_of_mem _ hx, nd.1 x hx⟩
  | @there y l l' h ih =>
    intro x hx
    simp only [List.map_cons, List.nodup_cons, List.mem_map, not_exists, not_and] at nd
    rcases List.mem_cons.mp hx with rfl | hx
    · exact .inr ⟨List.mem_cons_self, fun e => nd.1 _ h.at.mem e.symm⟩
    · rcases ih nd.2 x hx with h1 | ⟨h1, h2⟩
      · exact .inl h1
      · exact .inr ⟨List.mem_cons_of_mem _ h1, h2⟩
inductive InF (f : DH → Prop) : List (DH → Prop) → Prop where
  | here {l} : InF f (f :: l)
  | there {x l} (h : InF f l) : InF f (x :: l)
theorem InF.mem {f : DH → Prop} {l : List (DH → Prop)} (h : InF f l) : f ∈ l := by
  induction h with
  | here => simp
  | there _ ih => simp [ih]
section
variable {A H H' : DH} {bs bs' : List (Nat × DObj)} {fs : List (DH → Prop)}
theorem Bx.get (h : Bx A H bs fs) {b : Nat} {o : DObj} (k : At b o bs) : H.obj b = some o := (h.obj _ k.mem).2.2
theorem Bx.has (h : Bx A H bs fs) {f : DH → Prop} (k : InF f fs) : f H := by
  obtain ⟨S, _, h2, _⟩ := (h.fact f k.mem).ex
  exact h2
theorem Bx.init (h : ∀ f ∈ fs, Fact A [] f) : Bx A A [] fs := ⟨Above.refl A, fun b hb => (by cases hb), List.Pairwise.nil, h⟩
theorem Fact.grow {f : DH → Prop} (h : Fact H bs f) (k : Above H H') : Fact H' bs f := by
  obtain ⟨S, h1, h2, h3, h4⟩ := h.ex
  exact ⟨S, h1, h1 H H' k.le (fun l hl => k.same l (h3 l hl)) h2, fun l hl => Nat.lt_of_lt_of_le (h3 l hl) k.le, h4⟩
theorem Bx.grow (h : Bx A H bs fs) (k : Above H H') : Bx A H' bs fs :=
  ⟨h.ab.trans k, fun b hb => ⟨(h.obj b hb).1, Nat.lt_of_lt_of_le (h.obj b hb).2.1 k.le, k.obj (h.obj b hb).2.1 (h.obj b hb).2.2⟩, h.nd, fun f hf => (h.fact f hf).grow k⟩
theorem Bx.box (h : Bx A H bs fs) (o : DObj) : Bx A (H.new o) ((H.next, o) :: bs) fs := by
  have h' := h.grow ((Above.refl H).new o)
  refine ⟨h'.ab, fun b hb => ?_, ?_, fun f hf => ?_⟩
  · rcases List.mem_cons.mp hb with rfl | hb
    · exact ⟨h.ab.le, Nat.lt_succ_self _, obj_here rfl⟩
    · exact h'.obj b hb
  · simp only [List.map_cons, List.nodup_cons, List.mem_map, not_exists, not_and]
    refine ⟨fun x hx e => ?_, h.nd⟩
    have := (h.obj x hx).2.1
    omega
  · obtain ⟨S, h1, h2, h3, h4⟩ := (h.fact f hf).ex
    refine ⟨S, h1, h1 H _ (Nat.le_succ _) (fun l hl => obj_skip (Nat.ne_of_lt (h3 l hl)) rfl) h2, fun l hl => Nat.lt_succ_of_lt (h3 l hl), fun b hb => ?_⟩
    rcases List.mem_cons.mp hb with rfl | hb
    · exact fun hs => Nat.lt_irrefl _ (h3 _ hs)
    · exact h4 b hb
theorem Bx.put (h : Bx A H bs fs) {b : Nat} {o o' : DObj} (k : Upd b o o' bs bs') : Bx A (H.set b (some o')) bs' fs := by
  have hb := h.obj _ k.at.mem
  refine ⟨h.ab.set hb.1 _, fun x hx => ?_, by rw [k.map]; exact h.nd, fun f hf => ?_⟩
  · rcases k.mem h.nd x hx with rfl | ⟨h1, h2⟩
    · exact ⟨hb.1, hb.2.1, obj_set⟩
    · obtain ⟨h3, h4, h5⟩ := h.obj x h1
      exact ⟨h3, h4, obj_past h2 h5⟩
  · obtain ⟨S, h1, h2, h3, h4⟩ := (h.fact f hf).ex
    have hn := h4 _ k.at.mem
    refine ⟨S, h1, h1 H _ (Nat.le_refl _) (fun l hl => obj_past (fun e => hn (e ▸ hl)) rfl) h2, h3, fun x hx => ?_⟩
    rcases k.mem h.nd x hx with rfl | ⟨h5, _⟩
    · exact hn
    · exact h4 x h5
/-- Something more is known, of places that were made since. -/
theorem Bx.know (h : Bx A H bs fs) (k : Above H H') {f : DH → Prop} (S : Nat → Prop) (h1 : Stay S f) (h2 : f H') (h3 : ∀ l, S l → H.next ≤ l ∧ l < H'.next) : Bx A H' bs (f :: fs) := by
  have h' := h.grow k
  refine ⟨h'.ab, h'.obj, h'.nd, fun g hg => ?_⟩
  rcases List.mem_cons.mp hg with rfl | hg
  · exact ⟨S, h1, h2, fun l hl => (h3 l hl).2, fun b hb hs => by have := (h.obj b hb).2.1; have := (h3 _ hs).1; omega⟩
  · exact h'.fact g hg
/-- What is known no more. -/
theorem Bx.less {fs' : List (DH → Prop)} (h : Bx A H bs fs) (k : ∀ f ∈ fs', f ∈ fs) : Bx A H bs fs' := ⟨h.ab, h.obj, h.nd, fun f hf => h.fact f (k f hf)⟩
theorem Bx.fewer (h : Bx A H bs fs) (k : ∀ b ∈ bs', b ∈ bs) (nd : (bs'.map (·.1)).Nodup) : Bx A H bs' fs :=
  ⟨h.ab, fun b hb => h.obj b (k b hb), nd, fun f hf => by
    obtain ⟨S, h1, h2, h3, h4⟩ := (h.fact f hf).ex
    exact ⟨S, h1, h2, h3, fun b hb => h4 b (k b hb)⟩⟩
theorem Bx.sub (h : Bx A H bs fs) (k : bs'.Sublist bs) : Bx A H bs' fs := h.fewer (fun b hb => k.subset hb) (List.Nodup.sublist (k.map _) h.nd)
theorem Bx.two {f g : DH → Prop} (h : Bx A H bs (f :: g :: fs)) : Bx A H bs [f, g] := h.less fun x hx => by
  simp only [List.mem_cons, List.not_mem_nil, or_false] at hx ⊢
  rcases hx with rfl | rfl
  · exact .inl rfl
  · exact .inr (.inl rfl)
section
variable {P : Program} {X : Ext} {o : Oper} {env : List DV} {K : DV → DH → Prop}
theorem bx_box {t : TypeId} {x : Operand} {v : DV} {cs : List DV} {n : Nat} (ho : o.op = .box t x) (hx : evalO env x = some v) (hc : v.cells = cs) (h1 : cs.all DV.one = true) (hn : cs.length = n) (hB : Bx A H bs fs)
    (hk : ∀ b H', Bx A H' ((b, .rows false n [cs]) :: bs) fs → K (.ptr (some (b, 0, 0))) H') : OpWp P X o env H K := by
  subst hc hn
  refine op_at (v := .ptr (some (H.next, 0, 0))) (H' := H.new (.rows false v.cells.length [v.cells])) ?_ (hk _ _ (hB.box _))
  simp only [opD, ho, mover, moveD, hx, newVarD, h1, if_true]
theorem bx_alloc {t : TypeId} {z : DV} {cs : List DV} {n : Nat} (ho : o.op = .alloc t) (hz : zeroT P t = some z) (hc : z.cells = cs) (h1 : cs.all DV.one = true) (hn : cs.length = n) (hB : Bx A H bs fs)
    (hk : ∀ b H', Bx A H' ((b, .rows false n [cs]) :: bs) fs → K (.ptr (some (b, 0, 0))) H') : OpWp P X o env H K := by
  subst hc hn
  refine op_at (v := .ptr (some (H.next, 0, 0))) (H' := H.new (.rows false z.cells.length [z.cells])) ?_ (hk _ _ (hB.box _))
  simp only [opD, ho, mover, moveD, hz, newVarD, h1, if_true]
/-- A load where the row is at place 0. -/
theorem bx_load0 {t : TypeId} {a : Operand} {b q sz : Nat} {ro : Bool} {r : List DV} {v : DV} (ho : o.op = .load t a) (hp : evalO env a = some (.ptr (some (b, 0, q)))) (hB : Bx A H bs fs) (hm : At b (.rows ro sz [r]) bs)
    (hv : partD P t r q = some v) (hk : K v H) : OpWp P X o env H K := op_load_at ho hp (hB.get hm) rfl hv hk
/-- A whole box is written. -/
theorem bx_store0 {t : TypeId} {a x : Operand} {b sz n : Nat} {r cs : List DV} {v : DV} (ho : o.op = .store t a x) (hp : evalO env a = some (.ptr (some (b, 0, 0)))) (hx : evalO env x = some v) (hB : Bx A H bs fs) (hc : v.cells = cs)
    (hu : Upd b (.rows false sz [r]) (.rows false sz [cs]) bs bs') (hl : r.length = cs.length) (h1 : cs.all DV.one = true) (hn : sizeT P t = some n) (hcn : cs.length = n) (hk : ∀ H', Bx A H' bs' fs → K undefD H') : OpWp P X o env H K := by
  subst hc
  refine op_store_at (rs' := [v.cells]) ho hp hx (hB.get hu.at) ?_ hn hcn (hk _ (hB.put hu))
  simp only [setRow, List.getElem?_cons_zero, h1, and_true, Nat.zero_add, hl, Nat.le_refl, if_true, List.set_cons_zero]
  rw [splice, Nat.zero_add, ← hl, List.drop_length, List.append_nil, List.take_zero, List.nil_append]
theorem drawp_bx_load {H0 : DH} {all : Array Oper} {bef : Array Nat} {b i : Nat} {r : List Oper} {st : DSt} {K : DSt → Prop} {t : TypeId} {a : Operand} {l j q : Nat} {ro : Bool} {sz : Nat} {rs : List (List DV)} {row : List DV} {v : DV} (ho : o.op = .load t a) (hw : Region.wanted o (dyield all st.env) = true) (hp : evalO st.env a = some (.ptr (some (l, j, q)))) (hB : Bx A H0 bs fs) (hm : At l (.rows ro sz rs) bs)
    (hr : rs[j]? = some row) (hv : partD P t row q = some v) (hb : allBits b (bef.getD i 0) = true) (h : DrawP P X all bef b (Above H0) (i + 1) r ⟨putD st.env o.dst v, st.H⟩ K) : DrawP P X all bef b (Above H0) i (o :: r) st K :=
  drawp_read hw (by rw [ho]; rfl) (by rw [ho]; rfl) hb (fun H' (h : Above H0 H') => opD_load ho hp (h.obj (hB.obj _ hm.mem).2.1 (hB.get hm)) hr hv) h
end
end
end Go.Det

/- Kernels in boxes; what calls come to. -/
namespace Go.Det.Q
open Go Go.Det Go.Proofs
set_option maxRecDepth 4000
set_option maxHeartbeats 8000000
set_option linter.unusedVariables false
set_option linter.unusedSimpArgs false
/-- A slice holds these things. -/
def Is (s : DV) (l : List Item) : DH → Prop := fun H => Its H s l
theorem sl_lt {H : DH} {z loc i w : Nat} {R : List (List DV)} (h : Sl H z R (some (loc, i, w))) : loc < H.next := by cases h; assumption
theorem is_stay (s : DV) (l : List Item) {p : Option (Nat × Nat × Nat)} {n c : Nat} {ex : Bool} (e : s = .sl p n c ex) : Stay (fun loc => ∃ i z, p = some (loc, i, z)) (Is s l) := by
  intro H H' hle hob h
  obtain ⟨p', c', ex', e', hi⟩ := h
  rw [e] at e'
  cases e'
  refine ⟨p, c, ex, e, ?_, hi.nil, hi.len, hi.cap⟩
  have hs := hi.sl
  cases hs with
  | nil a => exact .nil a
  | «at» a1 a2 a3 a4 => exact .at (Nat.lt_of_lt_of_le a1 hle) ((hob _ ⟨_, _, rfl⟩).trans a2) a3 a4
/-- A slice. -/
structure Sv where
  p : Option (Nat × Nat × Nat)
  n : Nat
  c : Nat
  ex : Bool
def Sv.dv (s : Sv) : DV := .sl s.p s.n s.c s.ex
theorem Sv.cells (s : Sv) : DV.cells s.dv = [s.dv] := rfl
theorem its_sv {H : DH} {s : DV} {l : List Item} (h : Its H s l) : ∃ v : Sv, s = v.dv := by
  obtain ⟨p, c, ex, e, _⟩ := h
  exact ⟨⟨p, _, c, ex⟩, e⟩
section
variable {A H H' : DH} {bs : List (Nat × DObj)} {fs : List (DH → Prop)} {s s2 : DV} {l : List Item}
theorem is_init (h : Its A s l) : Fact A [] (Is s l) := by
  obtain ⟨p, c, ex, e, hi⟩ := h
  refine ⟨_, is_stay s l e, ⟨p, c, ex, e, hi⟩, ?_, fun b hb => (by cases hb)⟩
  rintro loc ⟨i, z, rfl⟩
  exact sl_lt hi.sl
theorem is_know (hB : Bx A H bs fs) (k : Above H H') (h : ItsF H H' s l) : Bx A H' bs (Is s l :: fs) := by
  obtain ⟨p, c, ex, e, hi, hf⟩ := h
  refine hB.know k _ (is_stay s l e) ⟨p, c, ex, e, hi⟩ ?_
  rintro loc ⟨i, z, rfl⟩
  exact ⟨hf _ _ _ rfl, sl_lt hi.sl⟩
theorem part48 (a b c d : DV) : partD Try.prog 48 [a, b, c, d] 0 = some (.agg [a, b, c, d]) := rfl
theorem part26 (x : Item) : partD Try.prog 26 x.cells 0 = some (.agg x.cells) := rfl
theorem part26' (a b c d e f : DV) : partD Try.prog 26 [a, b, c, d, e, f] 0 = some (.agg [a, b, c, d, e, f]) := rfl
theorem zero48 : zeroT Try.prog 48 = some (.agg [.sl none 0 0 true, .int .u64 0, .int .i64 0, .int .i64 0]) := by kernel_rfl
/-- A kernel. -/
structure Kq where
  l : List Item
  nx : Int
  now : Int
  hor : Int
structure Kq.ok (q : Kq) : Prop where
  len : q.l.length ≤ 1000000
  nx : 0 ≤ q.nx ∧ q.nx ≤ 18446744073709551615
def Kq.good (q : Kq) : Bool := kOk q.l q.nx q.now q.hor
def Kq.item (q : Kq) (a k w h m : Int) : Item := ⟨a, k, q.nx, w, h, m⟩
def Kq.postE (q : Kq) (a k : Int) : Int := Q.postE q.l q.nx q.now q.hor a k
def Kq.tok (q : Kq) (a k : Int) : Int := pQ q.l q.nx q.now q.hor a k
def Kq.post (q : Kq) (a k w h m : Int) : Kq := ⟨pL q.l (pushV q.l (q.item a k w h m)) q.nx q.now q.hor a k, pN q.l q.nx q.now q.hor a k, q.now, q.hor⟩
def Kq.rpost (q : Kq) (a k w h m : Int) : Kq := ⟨pL q.l (putL (sortL q.l) (q.item a k w h m)) q.nx q.now q.hor a k, pN q.l q.nx q.now q.hor a k, q.now, q.hor⟩
def Kq.cancelE (q : Kq) (t : Int) : Int := Q.cancelE q.l q.nx q.now q.hor t
def Kq.cancel (q : Kq) (t : Int) : Kq := ⟨cL q.l (takeV q.l t) q.nx q.now q.hor t, q.nx, q.now, q.hor⟩
def Kq.rcancel (q : Kq) (t : Int) : Kq := ⟨cL q.l (rtakeV q.l t) q.nx q.now q.hor t, q.nx, q.now, q.hor⟩
def Kq.stepE (q : Kq) : Int := Q.stepE q.l q.nx q.now q.hor
def Kq.stepX (q : Kq) : Item := sX q.l q.nx q.now q.hor
def Kq.step (q : Kq) : Kq := ⟨sL q.l (popV q.l) q.nx q.now q.hor, q.nx, sW q.l q.nx q.now q.hor, q.hor⟩
def Kq.rstep (q : Kq) : Kq := ⟨sL q.l ((sortL q.l).drop 1) q.nx q.now q.hor, q.nx, sW q.l q.nx q.now q.hor, q.hor⟩
def Kq.peekE (q : Kq) : Int := Q.peekE q.l q.nx q.now q.hor
def Kq.peekX (q : Kq) : Item := Q.peekX q.l q.nx q.now q.hor
def Kq.same (q p : Kq) : Bool := ksame q.l q.nx q.now q.hor p.l p.nx p.now p.hor
def kNew (x : Int) : Kq := ⟨[], 0, 0, if newOk x then x else 0⟩
theorem post_some {q : Kq} {a k w h m : Int} (e : q.postE a k = 0) : (q.post a k w h m) = ⟨pushV q.l (q.item a k w h m), q.nx + 1, q.now, q.hor⟩ := by
  have e' : Q.postE q.l q.nx q.now q.hor a k = 0 := e
  simp only [Kq.post, pL, pN, e', if_true]
theorem post_none {q : Kq} {a k w h m : Int} (e : q.postE a k ≠ 0) : (q.post a k w h m) = q := by
  have e' : ¬ Q.postE q.l q.nx q.now q.hor a k = 0 := e
  simp only [Kq.post, pL, pN, e', if_false]
theorem rpost_some {q : Kq} {a k w h m : Int} (e : q.postE a k = 0) : (q.rpost a k w h m) = ⟨putL (sortL q.l) (q.item a k w h m), q.nx + 1, q.now, q.hor⟩ := by
  have e' : Q.postE q.l q.nx q.now q.hor a k = 0 := e
  simp only [Kq.rpost, pL, pN, e', if_true]
theorem rpost_none {q : Kq} {a k w h m : Int} (e : q.postE a k ≠ 0) : (q.rpost a k w h m) = q := by
  have e' : ¬ Q.postE q.l q.nx q.now q.hor a k = 0 := e
  simp only [Kq.rpost, pL, pN, e', if_false]
theorem cancel_some {q : Kq} {t : Int} (e : q.cancelE t = 0) : q.cancel t = ⟨takeV q.l t, q.nx, q.now, q.hor⟩ := by
  have e' : Q.cancelE q.l q.nx q.now q.hor t = 0 := e
  simp only [Kq.cancel, cL, e', if_true]
theorem cancel_none {q : Kq} {t : Int} (e : q.cancelE t ≠ 0) : q.cancel t = q := by
  have e' : ¬ Q.cancelE q.l q.nx q.now q.hor t = 0 := e
  simp only [Kq.cancel, cL, e', if_false]
theorem rcancel_some {q : Kq} {t : Int} (e : q.cancelE t = 0) : q.rcancel t = ⟨rtakeV q.l t, q.nx, q.now, q.hor⟩ := by
  have e' : Q.cancelE q.l q.nx q.now q.hor t = 0 := e
  simp only [Kq.rcancel, cL, e', if_true]
theorem rcancel_none {q : Kq} {t : Int} (e : q.cancelE t ≠ 0) : q.rcancel t = q := by
  have e' : ¬ Q.cancelE q.l q.nx q.now q.hor t = 0 := e
  simp only [Kq.rcancel, cL, e', if_false]
theorem step_some {q : Kq} (e : q.stepE = 0) : q.step = ⟨popV q.l, q.nx, (g q.l 0).a, q.hor⟩ := by
  have e' : Q.stepE q.l q.nx q.now q.hor = 0 := e
  simp only [Kq.step, sL, sW, e', if_true]
theorem step_none {q : Kq} (e : q.stepE ≠ 0) : q.step = q := by
  have e' : ¬ Q.stepE q.l q.nx q.now q.hor = 0 := e
  simp only [Kq.step, sL, sW, e', if_false]
theorem rstep_some {q : Kq} (e : q.stepE = 0) : q.rstep = ⟨(sortL q.l).drop 1, q.nx, (g q.l 0).a, q.hor⟩ := by
  have e' : Q.stepE q.l q.nx q.now q.hor = 0 := e
  simp only [Kq.rstep, sL, sW, e', if_true]
theorem rstep_none {q : Kq} (e : q.stepE ≠ 0) : q.rstep = q := by
  have e' : ¬ Q.stepE q.l q.nx q.now q.hor = 0 := e
  simp only [Kq.rstep, sL, sW, e', if_false]
theorem Kq.post_ok {q : Kq} (h : q.ok) {a k w h' m : Int} : (q.post a k w h' m).ok := by
  by_cases e : q.postE a k = 0
  · rw [post_some e]
    have hp := (post_zero e).2
    have := pushE_zero hp
    refine ⟨?_, ?_⟩
    · show (pushV _ _).length ≤ _
      rw [pushV_len hp]; omega
    · have e' : Q.postE q.l q.nx q.now q.hor a k = 0 := e
      have := h.nx
      have hne : q.nx ≠ 18446744073709551615 := by
        intro e2
        unfold Q.postE at e'
        rw [e2] at e'
        split at e'
        · split at e'
          · cases e'
          · split at e'
            · cases e'
            · cases e'
        · cases e'
      show 0 ≤ q.nx + 1 ∧ q.nx + 1 ≤ _
      omega
  · rw [post_none e]; exact h
theorem Kq.rpost_ok {q : Kq} (h : q.ok) {a k w h' m : Int} : (q.rpost a k w h' m).ok := by
  by_cases e : q.postE a k = 0
  · rw [rpost_some e]
    have hp := (post_zero e).2
    have := pushE_zero hp
    have h2 := (Kq.post_ok h (a := a) (k := k) (w := w) (h' := h') (m := m)).nx
    rw [post_some e] at h2
    refine ⟨?_, h2⟩
    show (putL _ _).length ≤ _
    rw [(putL_perm _ _).length_eq, List.length_cons, (sortL_perm _).length_eq]; omega
  · rw [rpost_none e]; exact h
theorem takeV_len {l : List Item} {t : Int} (h : takeE l t = 0) : (takeV l t).length = l.length - 1 ∧ (rtakeV l t).length = l.length - 1 := by
  obtain ⟨_, _, a, h3, h4, _⟩ := takeE_zero h
  unfold takeV rtakeV
  rw [if_pos h, if_pos h, h3, Int.toNat_natCast, (sortL_perm _).length_eq, withoutL_length (by omega)]
  exact ⟨rfl, rfl⟩
theorem Kq.cancel_ok {q : Kq} (h : q.ok) {t : Int} : (q.cancel t).ok := by
  by_cases e : q.cancelE t = 0
  · rw [cancel_some e]
    have := takeV_len (cancel_zero e)
    have := h.len
    exact ⟨by show (takeV _ _).length ≤ _; omega, h.nx⟩
  · rw [cancel_none e]; exact h
theorem Kq.rcancel_ok {q : Kq} (h : q.ok) {t : Int} : (q.rcancel t).ok := by
  by_cases e : q.cancelE t = 0
  · rw [rcancel_some e]
    have := takeV_len (cancel_zero e)
    have := h.len
    exact ⟨by show (rtakeV _ _).length ≤ _; omega, h.nx⟩
  · rw [rcancel_none e]; exact h
theorem Kq.step_ok {q : Kq} (h : q.ok) : (q.step).ok := by
  by_cases e : q.stepE = 0
  · rw [step_some e]
    have := popV_len (step_zero e)
    have := h.len
    exact ⟨by show (popV _).length ≤ _; omega, h.nx⟩
  · rw [step_none e]; exact h
theorem Kq.rstep_ok {q : Kq} (h : q.ok) : (q.rstep).ok := by
  by_cases e : q.stepE = 0
  · rw [rstep_some e]
    have := h.len
    exact ⟨by show (List.drop 1 _).length ≤ _; rw [List.length_drop, (sortL_perm _).length_eq]; omega, h.nx⟩
  · rw [rstep_none e]; exact h
theorem kNew_ok (x : Int) : (kNew x).ok := ⟨by simp [kNew], by simp [kNew]⟩
variable {s s2 : Sv} {q p : Kq} {K : DV → DH → Prop}
theorem few_b (hB : Bx A H bs fs) (hm : InF (Is s.dv q.l) fs) (hk : K (.bool (decide ((q.l.length : Int) ≤ 200))) H) : CallWp Try.prog K5 35 [.agg [s.dv, .int .u64 q.nx, .int .i64 q.now, .int .i64 q.hor]] H K :=
  call_table (g := gFew) rfl (few_t (hB.has hm)) hk
theorem post_b {a k w h m : Int} (hB : Bx A H bs fs) (hm : InF (Is s.dv q.l) fs) (hq : q.ok) (hk : ∀ (s' : Sv) H', Bx A H' bs (Is s'.dv (q.post a k w h m).l :: fs) → K (.tuple [.agg [s'.dv, .int .u64 (q.post a k w h m).nx, .int .i64 (q.post a k w h m).now, .int .i64 (q.post a k w h m).hor], .int .u64 (q.tok a k), .int .i64 (q.postE a k)]) H') :
    CallWp Try.prog K5 37 [.agg [s.dv, .int .u64 q.nx, .int .i64 q.now, .int .i64 q.hor], .int .i64 a, .int .i64 k, .int .i64 w, .int .i64 h, .int .u64 m] H K := by
  obtain ⟨p, c, ex, e, hl⟩ := hB.has hm
  rw [e]
  refine (post37 H p c ex q.l q.nx q.now q.hor a k w h m hl hq.len hq.nx).mono ?_
  intro r H' hp
  obtain ⟨ab, s', rfl, hi⟩ := hp.out
  obtain ⟨v, rfl⟩ := its_sv hi.its
  exact hk v _ (is_know hB ab hi)
theorem cancel_b {t : Int} (hB : Bx A H bs fs) (hm : InF (Is s.dv q.l) fs) (hq : q.ok) (hk : ∀ (s' : Sv) H', Bx A H' bs (Is s'.dv (q.cancel t).l :: fs) → K (.tuple [.agg [s'.dv, .int .u64 (q.cancel t).nx, .int .i64 (q.cancel t).now, .int .i64 (q.cancel t).hor], .int .i64 (q.cancelE t)]) H') :
    CallWp Try.prog K5 40 [.agg [s.dv, .int .u64 q.nx, .int .i64 q.now, .int .i64 q.hor], .int .u64 t] H K := by
  obtain ⟨p, c, ex, e, hl⟩ := hB.has hm
  rw [e]
  refine (cancel40 H p c ex q.l q.nx q.now q.hor t hl hq.len).mono ?_
  intro r H' hp
  obtain ⟨ab, s', rfl, hi⟩ := hp.out
  obtain ⟨v, rfl⟩ := its_sv hi.its
  exact hk v _ (is_know hB ab hi)
end
end Go.Det.Q

/- Kernels: Tidy; the program's Same. -/
namespace Go.Det.Q
open Go Go.Det Go.Proofs
set_option maxRecDepth 4000
set_option maxHeartbeats 16000000
set_option linter.unusedVariables false
set_option linter.unusedSimpArgs false
theorem psame68 (H : DH) (p p' : Option (Nat × Nat × Nat)) (c c' : Nat) (ex ex' : Bool) (l m : List Item) (hl : It H p c ex l) (hm : It H p' c' ex' m) :
    CallWp Try.prog K5 68 [.sl p l.length c ex, .sl p' m.length c' ex'] H (fun r H' => r = .bool (decide (l = m)) ∧ H' = H) := by
  have hlen : l.length ≤ 9223372036854775807 := hl.len
  by_cases hne : ((l.length : Int) != (m.length : Int)) = true
  · skip
    refine enter rfl Try.func68 rfl Try.ntmps68 rfl ?_
    dsimp only [List.cons_append, List.nil_append, List.length_cons, List.length_nil, List.replicate_succ, List.replicate_zero, Nat.reduceAdd, Nat.reduceSub]
    repeat' (first
      | dsimp only [putD, DV.cells, DH.new_next, DH.set_next, List.length_cons, List.length_nil, Nat.reduceAdd, List.set_cons_zero, List.set_cons_succ, getD_zero, getD_succ, fieldAt_zero, fieldAt_succ, thenD, blockD, retR]
      | apply dwp_seq
      | apply dwp_region
      | apply ops_nil
      | (apply ops_plain; (· exact rfl))
      | (apply op_at; (· exact rfl))
      | (apply dwp_cond_t; (· exact rfl); (· (first | with_reducible assumption | with_reducible rfl | decide)))
      | apply dwp_ret
      | (refine ⟨_, rfl, ?_⟩)
      | fail)
    refine ⟨?_, rfl⟩
    have : ¬ l = m := fun e => by subst e; simp at hne
    simp [this]
  · have hne' : ((l.length : Int) != (m.length : Int)) = false := by simpa using hne
    have hlm : l.length = m.length := by simp at hne'; omega
    refine enter rfl Try.func68 rfl Try.ntmps68 rfl ?_
    dsimp only [List.cons_append, List.nil_append, List.length_cons, List.length_nil, List.replicate_succ, List.replicate_zero, Nat.reduceAdd, Nat.reduceSub]
    repeat' (first
      | dsimp only [putD, DV.cells, DH.new_next, DH.set_next, List.length_cons, List.length_nil, Nat.reduceAdd, List.set_cons_zero, List.set_cons_succ, getD_zero, getD_succ, fieldAt_zero, fieldAt_succ, thenD, blockD, retR]
      | apply dwp_seq
      | apply dwp_region
      | apply ops_nil
      | (apply ops_plain; (· exact rfl))
      | (apply op_at; (· exact rfl))
      | (apply dwp_cond_f; (· exact rfl); (· (first | with_reducible assumption | with_reducible rfl | decide)))
      | apply dwp_block
      | apply dwp_skip
      | fail)
    refine dwp_loop (fun st => ∃ (k : Nat), ∃ J : Nat → DV, (k ≤ l.length ∧ ∀ i, i < k → l[i]? = m[i]?) ∧ st = ⟨[.sl p l.length c ex, .sl p' m.length c' ex', J 2, J 3, J 4, J 5, J 6, J 7, J 8, J 9, J 10, J 11, .int .i64 l.length, .int .i64 (k : Int), J 14, J 15, J 16, J 17, J 18, J 19, J 20, J 21, J 22, J 23, J 24, J 25], H⟩) (fun st => l.length - kOf st 13) (⟨0, junk_facts (⟨Nat.zero_le _, fun i h2 => absurd h2 (by omega)⟩) rfl rfl⟩) ?_
    rintro st ⟨k, J, ⟨hk, hbef⟩, rfl⟩
    by_cases hlt : k < l.length
    · obtain ⟨x, hx⟩ : ∃ x, l[k]? = some x := ⟨l[k], List.getElem?_eq_getElem hlt⟩
      obtain ⟨y, hy⟩ : ∃ y, m[k]? = some y := ⟨m[k]'(by omega), List.getElem?_eq_getElem _⟩
      obtain ⟨loc, i0, ro, rs, rfl, hloc, ho, hrx⟩ := hl.rd hx
      obtain ⟨loc', i0', ro', rs', rfl, hloc', ho', hry⟩ := hm.rd hy
      have hr1 : rs[i0 + ((k : Int)).toNat]? = some x.cells := by rw [Int.toNat_natCast]; exact hrx
      have hr2 : rs'[i0' + ((k : Int)).toNat]? = some y.cells := by rw [Int.toNat_natCast]; exact hry
      have hc : decide ((k : Int) < (l.length : Int)) = true := by simp [hlt]
      have hin1 : 0 ≤ (k : Int) ∧ (k : Int) < (l.length : Int) := by omega
      have hin2 : 0 ≤ (k : Int) ∧ (k : Int) < (m.length : Int) := by omega
      have hw := wrapNat (k := k) (by omega)
      repeat' (first
        | dsimp only [putD, DV.cells, DH.new_next, DH.set_next, List.length_cons, List.length_nil, Nat.reduceAdd, List.set_cons_zero, List.set_cons_succ, getD_zero, getD_succ, fieldAt_zero, fieldAt_succ, thenD, blockD, retR]
        | (apply drawc_pure; (· (first | exact wanted_plain rfl | (apply wanted_on; (· exact rfl); (· exact rfl); (· (first | with_reducible assumption | with_reducible rfl | decide))))); (· exact rfl); (· exact rfl); (· exact opD_index rfl rfl rfl rfl rfl hin1))
        | (apply drawc_pure; (· (first | exact wanted_plain rfl | (apply wanted_on; (· exact rfl); (· exact rfl); (· (first | with_reducible assumption | with_reducible rfl | decide))))); (· exact rfl); (· exact rfl); (· exact opD_index rfl rfl rfl rfl rfl hin2))
        | (apply drawc_read_at; (· exact rfl); (· (first | exact wanted_plain rfl | (apply wanted_on; (· exact rfl); (· exact rfl); (· (first | with_reducible assumption | with_reducible rfl | decide))))); (· exact rfl); (· exact ho); (· with_reducible exact hr1); (· exact item_part x); (· decide +kernel))
        | (apply drawc_read_at; (· exact rfl); (· (first | exact wanted_plain rfl | (apply wanted_on; (· exact rfl); (· exact rfl); (· (first | with_reducible assumption | with_reducible rfl | decide))))); (· exact rfl); (· exact ho'); (· with_reducible exact hr2); (· exact item_part y); (· decide +kernel))
        | (apply drawc_pure; (· (first | exact wanted_plain rfl | (apply wanted_on; (· exact rfl); (· exact rfl); (· (first | with_reducible assumption | with_reducible rfl | decide))))); (· exact rfl); (· exact rfl); (· exact opD_neql rfl rfl rfl (eqItem x y)))
        | apply dwp_seq
        | apply dwp_region
        | apply ops_nil
        | (apply ops_plain; (· exact rfl))
        | (apply op_at; (· exact rfl))
        | refine dwp_drawc _ rfl ?_
        | apply drawc_nil
        | (apply drawc_pure; (· (first | exact wanted_plain rfl | (apply wanted_on; (· exact rfl); (· exact rfl); (· (first | with_reducible assumption | with_reducible rfl | decide))))); (· exact rfl); (· exact rfl); (· exact rfl))
        | (apply dwp_cond_t; (· exact rfl); (· (first | with_reducible assumption | with_reducible rfl | decide)))
        | (refine dwp_cond rfl ?_ ?_ <;> intro hb)
        | apply dwp_block
        | apply dwp_skip
        | apply dwp_ret
        | (refine ⟨_, rfl, ?_⟩)
        | fail)
      · refine ⟨?_, rfl⟩
        have hxy : ¬ x = y := by simpa using hb
        have : ¬ l = m := fun e => by subst e; rw [hx] at hy; cases hy; exact hxy rfl
        simp [this]
      · have hxy : x = y := by simpa using hb
        rw [hw]
        refine ⟨⟨k + 1, junk_facts (⟨by omega, fun i h2 => ?_⟩) rfl rfl⟩, ?_⟩
        · by_cases e : i = k
          · subst e; rw [hx, hy, hxy]
          · exact hbef i (by omega)
        · show l.length - ((k + 1 : Nat) : Int).toNat < l.length - (k : Int).toNat
          omega
    · have hc : decide ((k : Int) < (l.length : Int)) = false := by simp; omega
      repeat' (first
        | dsimp only [putD, DV.cells, DH.new_next, DH.set_next, List.length_cons, List.length_nil, Nat.reduceAdd, List.set_cons_zero, List.set_cons_succ, getD_zero, getD_succ, fieldAt_zero, fieldAt_succ, thenD, blockD, retR]
        | apply dwp_seq
        | apply dwp_region
        | apply ops_nil
        | (apply ops_plain; (· exact rfl))
        | (apply op_at; (· exact rfl))
        | (apply dwp_cond_f; (· exact rfl); (· (first | with_reducible assumption | with_reducible rfl | decide)))
        | apply dwp_ret
        | apply dwp_exit
        | (refine ⟨_, rfl, ?_⟩)
        | fail)
      refine ⟨?_, rfl⟩
      have : l = m := by
        apply List.ext_getElem?
        intro i
        by_cases hi : i < k
        · exact hbef i hi
        · rw [List.getElem?_eq_none (by omega), List.getElem?_eq_none (by omega)]
      simp [this]
def Kq.tidy (q : Kq) : Kq := ⟨if q.good then sortL q.l else q.l, q.nx, q.now, q.hor⟩
theorem tidy_yes {q : Kq} (h : q.good = true) : q.tidy.l = sortL q.l := by unfold Kq.tidy; rw [h]; rfl
theorem tidy_no {q : Kq} (h : q.good = false) : q.tidy.l = q.l := by unfold Kq.tidy; rw [h]; rfl
theorem Kq.tidy_ok {q : Kq} (h : q.ok) : q.tidy.ok := ⟨by unfold Kq.tidy; simp only; split <;> simp only [(sortL_perm _).length_eq, h.len], h.nx⟩
section
variable {A H : DH} {bs : List (Nat × DObj)} {fs : List (DH → Prop)} {s s2 : Sv} {q p : Kq} {K : DV → DH → Prop} {l m : List Item}
theorem psort_b (hB : Bx A H bs fs) (hm : InF (Is s.dv l) fs) (hn : l.length ≤ 1000000) (hk : ∀ (s' : Sv) H', Above H H' → Bx A H' bs (Is s'.dv (sortL l) :: fs) → K s'.dv H') : CallWp Try.prog K5 30 [s.dv] H K := by
  refine (CallWp.up up5K5 (sorted30 H s.dv l (hB.has hm) hn)).mono ?_
  rintro r H' ⟨ab, hi⟩
  obtain ⟨v, rfl⟩ := its_sv hi.its
  exact hk v _ ab (is_know hB ab hi)
theorem plsame_b (hB : Bx A H bs fs) (hm : InF (Is s.dv l) fs) (hm2 : InF (Is s2.dv m) fs) (hk : K (.bool (decide (l = m))) H) : CallWp Try.prog K5 68 [s.dv, s2.dv] H K := by
  obtain ⟨p, c, ex, e, hl⟩ := hB.has hm
  obtain ⟨p', c', ex', e', hl'⟩ := hB.has hm2
  rw [e, e']
  refine (psame68 H p p' c c' ex ex' l m hl hl').mono ?_
  rintro r H' ⟨rfl, rfl⟩
  exact hk
theorem same53 (h1 : Its H s.dv q.l) (h2 : Its H s2.dv p.l) (hq : q.ok) (hp : p.ok) :
    CallWp Try.prog K5 53 [.agg [s.dv, .int .u64 q.nx, .int .i64 q.now, .int .i64 q.hor], .agg [s2.dv, .int .u64 p.nx, .int .i64 p.now, .int .i64 p.hor]] H (fun r H' => r = .bool (q.same p) ∧ Above H H') := by
  have hB : Bx H H [] [Is s.dv q.l, Is s2.dv p.l] := Bx.init (fun f hf => by
    simp only [List.mem_cons, List.not_mem_nil, or_false] at hf
    rcases hf with rfl | rfl
    · exact is_init h1
    · exact is_init h2)
  unfold Kq.same ksame
  cases h1 : (q.nx == p.nx) with
  | false =>
    refine enter rfl Try.func53 rfl Try.ntmps53 rfl ?_
    dsimp only [List.cons_append, List.nil_append, List.length_cons, List.length_nil, List.replicate_succ, List.replicate_zero, Nat.reduceAdd, Nat.reduceSub]
    repeat' (first
      | dsimp only [putD, DV.cells, DH.new_next, DH.set_next, List.length_cons, List.length_nil, Nat.reduceAdd, List.set_cons_zero, List.set_cons_succ, getD_zero, getD_succ, fieldAt_zero, fieldAt_succ, thenD, blockD, retR]
      | apply dwp_seq
      | apply dwp_region
      | apply ops_nil
      | (apply ops_plain; (· exact rfl))
      | (apply bx_box; (· exact rfl); (· exact rfl); (· (first | (dsimp only [putD, DV.cells, DH.new_next, DH.set_next, List.length_cons, List.length_nil, Nat.reduceAdd, List.set_cons_zero, List.set_cons_succ, getD_zero, getD_succ, fieldAt_zero, fieldAt_succ, thenD, blockD, retR, Sv.cells]; done) | (dsimp only [putD, DV.cells, DH.new_next, DH.set_next, List.length_cons, List.length_nil, Nat.reduceAdd, List.set_cons_zero, List.set_cons_succ, getD_zero, getD_succ, fieldAt_zero, fieldAt_succ, thenD, blockD, retR, Sv.cells]; exact rfl) | exact rfl)); (· exact rfl); (· exact rfl); (· assumption); intro b1 H1 hB)
      | (apply op_at; (· exact rfl))
      | refine dwp_drawp _ rfl (fun H' => Above _ H') (Above.refl _) ?_
      | apply drawp_nil
      | (apply drawp_bx_load; (· exact rfl); (· (first | exact wanted_plain rfl | (apply wanted_on; (· exact rfl); (· exact rfl); (· (first | with_reducible assumption | with_reducible rfl | decide))))); (· exact rfl); (· assumption); (· (repeat (first | with_reducible exact At.here | with_reducible apply At.there))); (· exact rfl); (· (first | exact part48 _ _ _ _ | exact part26 _ | exact part26' _ _ _ _ _ _ | exact rfl)); (· decide +kernel))
      | (apply drawp_pick_f; (· (first | exact wanted_plain rfl | (apply wanted_on; (· exact rfl); (· exact rfl); (· (first | with_reducible assumption | with_reducible rfl | decide))))); (· exact rfl); (· exact rfl); (· (first | with_reducible assumption | with_reducible rfl | decide)); (· exact rfl))
      | (apply drawp_pure; (· (first | exact wanted_plain rfl | (apply wanted_on; (· exact rfl); (· exact rfl); (· (first | with_reducible assumption | with_reducible rfl | decide))))); (· exact rfl); (· exact rfl); (· exact rfl))
      | (apply drawp_off; (· (first | (apply wanted_off1; (· exact rfl); (· exact rfl); (· (first | with_reducible assumption | with_reducible rfl | decide))) | (apply wanted_off0; (· exact rfl); (· exact rfl); (· (first | with_reducible assumption | with_reducible rfl | decide))) | (apply wanted_none; (· exact rfl); (· exact rfl)))))
      | apply dwp_ret
      | (refine ⟨_, rfl, ?_⟩)
      | fail)
    exact ⟨rfl, hB.ab⟩
  | true =>
    cases h2 : (q.now == p.now) with
    | false =>
      refine enter rfl Try.func53 rfl Try.ntmps53 rfl ?_
      dsimp only [List.cons_append, List.nil_append, List.length_cons, List.length_nil, List.replicate_succ, List.replicate_zero, Nat.reduceAdd, Nat.reduceSub]
      repeat' (first
        | dsimp only [putD, DV.cells, DH.new_next, DH.set_next, List.length_cons, List.length_nil, Nat.reduceAdd, List.set_cons_zero, List.set_cons_succ, getD_zero, getD_succ, fieldAt_zero, fieldAt_succ, thenD, blockD, retR]
        | apply dwp_seq
        | apply dwp_region
        | apply ops_nil
        | (apply ops_plain; (· exact rfl))
        | (apply bx_box; (· exact rfl); (· exact rfl); (· (first | (dsimp only [putD, DV.cells, DH.new_next, DH.set_next, List.length_cons, List.length_nil, Nat.reduceAdd, List.set_cons_zero, List.set_cons_succ, getD_zero, getD_succ, fieldAt_zero, fieldAt_succ, thenD, blockD, retR, Sv.cells]; done) | (dsimp only [putD, DV.cells, DH.new_next, DH.set_next, List.length_cons, List.length_nil, Nat.reduceAdd, List.set_cons_zero, List.set_cons_succ, getD_zero, getD_succ, fieldAt_zero, fieldAt_succ, thenD, blockD, retR, Sv.cells]; exact rfl) | exact rfl)); (· exact rfl); (· exact rfl); (· assumption); intro b1 H1 hB)
        | (apply op_at; (· exact rfl))
        | refine dwp_drawp _ rfl (fun H' => Above _ H') (Above.refl _) ?_
        | apply drawp_nil
        | (apply drawp_bx_load; (· exact rfl); (· (first | exact wanted_plain rfl | (apply wanted_on; (· exact rfl); (· exact rfl); (· (first | with_reducible assumption | with_reducible rfl | decide))))); (· exact rfl); (· assumption); (· (repeat (first | with_reducible exact At.here | with_reducible apply At.there))); (· exact rfl); (· (first | exact part48 _ _ _ _ | exact part26 _ | exact part26' _ _ _ _ _ _ | exact rfl)); (· decide +kernel))
        | (apply drawp_pick_t; (· (first | exact wanted_plain rfl | (apply wanted_on; (· exact rfl); (· exact rfl); (· (first | with_reducible assumption | with_reducible rfl | decide))))); (· exact rfl); (· exact rfl); (· (first | with_reducible assumption | with_reducible rfl | decide)); (· exact rfl))
        | (apply drawp_pick_f; (· (first | exact wanted_plain rfl | (apply wanted_on; (· exact rfl); (· exact rfl); (· (first | with_reducible assumption | with_reducible rfl | decide))))); (· exact rfl); (· exact rfl); (· (first | with_reducible assumption | with_reducible rfl | decide)); (· exact rfl))
        | (apply drawp_pure; (· (first | exact wanted_plain rfl | (apply wanted_on; (· exact rfl); (· exact rfl); (· (first | with_reducible assumption | with_reducible rfl | decide))))); (· exact rfl); (· exact rfl); (· exact rfl))
        | (apply drawp_off; (· (first | (apply wanted_off1; (· exact rfl); (· exact rfl); (· (first | with_reducible assumption | with_reducible rfl | decide))) | (apply wanted_off0; (· exact rfl); (· exact rfl); (· (first | with_reducible assumption | with_reducible rfl | decide))) | (apply wanted_none; (· exact rfl); (· exact rfl)))))
        | apply dwp_ret
        | (refine ⟨_, rfl, ?_⟩)
        | fail)
      exact ⟨rfl, hB.ab⟩
    | true =>
      cases h3 : (q.hor == p.hor) with
      | false =>
        refine enter rfl Try.func53 rfl Try.ntmps53 rfl ?_
        dsimp only [List.cons_append, List.nil_append, List.length_cons, List.length_nil, List.replicate_succ, List.replicate_zero, Nat.reduceAdd, Nat.reduceSub]
        repeat' (first
          | dsimp only [putD, DV.cells, DH.new_next, DH.set_next, List.length_cons, List.length_nil, Nat.reduceAdd, List.set_cons_zero, List.set_cons_succ, getD_zero, getD_succ, fieldAt_zero, fieldAt_succ, thenD, blockD, retR]
          | apply dwp_seq
          | apply dwp_region
          | apply ops_nil
          | (apply ops_plain; (· exact rfl))
          | (apply bx_box; (· exact rfl); (· exact rfl); (· (first | (dsimp only [putD, DV.cells, DH.new_next, DH.set_next, List.length_cons, List.length_nil, Nat.reduceAdd, List.set_cons_zero, List.set_cons_succ, getD_zero, getD_succ, fieldAt_zero, fieldAt_succ, thenD, blockD, retR, Sv.cells]; done) | (dsimp only [putD, DV.cells, DH.new_next, DH.set_next, List.length_cons, List.length_nil, Nat.reduceAdd, List.set_cons_zero, List.set_cons_succ, getD_zero, getD_succ, fieldAt_zero, fieldAt_succ, thenD, blockD, retR, Sv.cells]; exact rfl) | exact rfl)); (· exact rfl); (· exact rfl); (· assumption); intro b1 H1 hB)
          | (apply op_at; (· exact rfl))
          | refine dwp_drawp _ rfl (fun H' => Above _ H') (Above.refl _) ?_
          | apply drawp_nil
          | (apply drawp_bx_load; (· exact rfl); (· (first | exact wanted_plain rfl | (apply wanted_on; (· exact rfl); (· exact rfl); (· (first | with_reducible assumption | with_reducible rfl | decide))))); (· exact rfl); (· assumption); (· (repeat (first | with_reducible exact At.here | with_reducible apply At.there))); (· exact rfl); (· (first | exact part48 _ _ _ _ | exact part26 _ | exact part26' _ _ _ _ _ _ | exact rfl)); (· decide +kernel))
          | (apply drawp_pick_t; (· (first | exact wanted_plain rfl | (apply wanted_on; (· exact rfl); (· exact rfl); (· (first | with_reducible assumption | with_reducible rfl | decide))))); (· exact rfl); (· exact rfl); (· (first | with_reducible assumption | with_reducible rfl | decide)); (· exact rfl))
          | (apply drawp_pick_f; (· (first | exact wanted_plain rfl | (apply wanted_on; (· exact rfl); (· exact rfl); (· (first | with_reducible assumption | with_reducible rfl | decide))))); (· exact rfl); (· exact rfl); (· (first | with_reducible assumption | with_reducible rfl | decide)); (· exact rfl))
          | (apply drawp_pure; (· (first | exact wanted_plain rfl | (apply wanted_on; (· exact rfl); (· exact rfl); (· (first | with_reducible assumption | with_reducible rfl | decide))))); (· exact rfl); (· exact rfl); (· exact rfl))
          | (apply drawp_off; (· (first | (apply wanted_off1; (· exact rfl); (· exact rfl); (· (first | with_reducible assumption | with_reducible rfl | decide))) | (apply wanted_off0; (· exact rfl); (· exact rfl); (· (first | with_reducible assumption | with_reducible rfl | decide))) | (apply wanted_none; (· exact rfl); (· exact rfl)))))
          | apply dwp_ret
          | (refine ⟨_, rfl, ?_⟩)
          | fail)
        exact ⟨rfl, hB.ab⟩
      | true =>
        refine enter rfl Try.func53 rfl Try.ntmps53 rfl ?_
        dsimp only [List.cons_append, List.nil_append, List.length_cons, List.length_nil, List.replicate_succ, List.replicate_zero, Nat.reduceAdd, Nat.reduceSub]
        repeat' (first
          | dsimp only [putD, DV.cells, DH.new_next, DH.set_next, List.length_cons, List.length_nil, Nat.reduceAdd, List.set_cons_zero, List.set_cons_succ, getD_zero, getD_succ, fieldAt_zero, fieldAt_succ, thenD, blockD, retR]
          | apply dwp_seq
          | apply dwp_region
          | apply ops_nil
          | (apply ops_plain; (· exact rfl))
          | (apply bx_box; (· exact rfl); (· exact rfl); (· (first | (dsimp only [putD, DV.cells, DH.new_next, DH.set_next, List.length_cons, List.length_nil, Nat.reduceAdd, List.set_cons_zero, List.set_cons_succ, getD_zero, getD_succ, fieldAt_zero, fieldAt_succ, thenD, blockD, retR, Sv.cells]; done) | (dsimp only [putD, DV.cells, DH.new_next, DH.set_next, List.length_cons, List.length_nil, Nat.reduceAdd, List.set_cons_zero, List.set_cons_succ, getD_zero, getD_succ, fieldAt_zero, fieldAt_succ, thenD, blockD, retR, Sv.cells]; exact rfl) | exact rfl)); (· exact rfl); (· exact rfl); (· assumption); intro b1 H1 hB)
          | (apply op_at; (· exact rfl))
          | (apply op_call; (· exact rfl); (· exact rfl); (· exact rfl); (apply psort_b; (· assumption); (· (repeat (first | with_reducible exact InF.here | with_reducible assumption | with_reducible apply InF.there))); (· first | exact hq.len | exact hp.len); intro s1 H1 hab hB); refine ⟨(by (first | exact Above.refl _ | assumption | exact Above.trans (by assumption) (by assumption))), ?_⟩)
          | (apply op_call; (· exact rfl); (· exact rfl); (· exact rfl); (apply plsame_b; (· assumption); (· (repeat (first | with_reducible exact InF.here | with_reducible assumption | with_reducible apply InF.there))); (· (repeat (first | with_reducible exact InF.here | with_reducible assumption | with_reducible apply InF.there)))); refine ⟨(by (first | exact Above.refl _ | assumption | exact Above.trans (by assumption) (by assumption))), ?_⟩)
          | refine dwp_drawp _ rfl (fun H' => Above _ H') (Above.refl _) ?_
          | apply drawp_nil
          | (apply drawp_bx_load; (· exact rfl); (· (first | exact wanted_plain rfl | (apply wanted_on; (· exact rfl); (· exact rfl); (· (first | with_reducible assumption | with_reducible rfl | decide))))); (· exact rfl); (· assumption); (· (repeat (first | with_reducible exact At.here | with_reducible apply At.there))); (· exact rfl); (· (first | exact part48 _ _ _ _ | exact part26 _ | exact part26' _ _ _ _ _ _ | exact rfl)); (· decide +kernel))
          | (apply drawp_pick_t; (· (first | exact wanted_plain rfl | (apply wanted_on; (· exact rfl); (· exact rfl); (· (first | with_reducible assumption | with_reducible rfl | decide))))); (· exact rfl); (· exact rfl); (· (first | with_reducible assumption | with_reducible rfl | decide)); (· exact rfl))
          | (apply drawp_pure; (· (first | exact wanted_plain rfl | (apply wanted_on; (· exact rfl); (· exact rfl); (· (first | with_reducible assumption | with_reducible rfl | decide))))); (· exact rfl); (· exact rfl); (· exact rfl))
          | (apply drawp_move; (· (first | exact wanted_plain rfl | (apply wanted_on; (· exact rfl); (· exact rfl); (· (first | with_reducible assumption | with_reducible rfl | decide))))); (· exact rfl); (· decide +kernel))
          | apply dwp_ret
          | (refine ⟨_, rfl, ?_⟩)
          | fail)
        exact ⟨rfl, hB.ab⟩
theorem psame_b (hB : Bx A H bs fs) (hm : InF (Is s.dv q.l) fs) (hm2 : InF (Is s2.dv p.l) fs) (hq : q.ok) (hp : p.ok) (hk : ∀ H', Above H H' → Bx A H' bs fs → K (.bool (q.same p)) H') :
    CallWp Try.prog K5 53 [.agg [s.dv, .int .u64 q.nx, .int .i64 q.now, .int .i64 q.hor], .agg [s2.dv, .int .u64 p.nx, .int .i64 p.now, .int .i64 p.hor]] H K := by
  refine (same53 (hB.has hm) (hB.has hm2) hq hp).mono ?_
  rintro r H' ⟨rfl, ab⟩
  exact hk _ ab (hB.grow ab)
end
end Go.Det.Q

/- Kernels: the plain theory of what is posted, cancelled, and comes. -/
namespace Go.Det.Q
open Go Go.Det Go.Proofs
set_option maxHeartbeats 4000000
set_option linter.unusedVariables false
set_option linter.unusedSimpArgs false
/-- What is well made, but for the heap's order. -/
structure Soft (l : List Item) (nx now hor : Int) : Prop where
  n0 : 0 ≤ now
  nh : now ≤ hor
  may : mayB hor = true
  len : l.length ≤ 4096
  items : ∀ x ∈ l, itemOk nx now x = true
  nd : (l.map (·.s)).Nodup
theorem Soft.perm {l m : List Item} {nx now hor : Int} (h : Soft l nx now hor) (p : List.Perm l m) : Soft m nx now hor :=
  ⟨h.n0, h.nh, h.may, by rw [← p.length_eq]; exact h.len, fun x hx => h.items x (p.mem_iff.mpr hx), (p.map _).nodup_iff.mp h.nd⟩
theorem bad_none {l : List Item} {nx now : Int} : (List.range l.length).any (badI l nx now) = false ↔ (∀ x ∈ l, itemOk nx now x = true) ∧ (l.map (·.s)).Nodup := by
  rw [List.any_eq_false]
  constructor
  · intro h
    have key : ∀ (k : Nat) (hk : k < l.length), itemOk nx now l[k] = true ∧ ∀ y ∈ l.take k, y.s ≠ l[k].s := by
      intro k hk
      have := h k (List.mem_range.mpr hk)
      unfold badI at this
      rw [List.getElem?_eq_getElem hk] at this
      simp only [Bool.not_eq_true, Bool.or_eq_false_iff, Bool.not_eq_false', List.any_eq_false] at this
      refine ⟨this.1, fun y hy e => ?_⟩
      have := this.2 y hy
      simp [e] at this
    refine ⟨fun x hx => ?_, ?_⟩
    · obtain ⟨k, hk, rfl⟩ := List.getElem_of_mem hx
      exact (key k hk).1
    · rw [List.nodup_iff_pairwise_ne, List.pairwise_map, List.pairwise_iff_getElem]
      intro i j hi hj hij
      refine (key j hj).2 _ ?_
      rw [List.mem_take_iff_getElem]
      exact ⟨i, by omega, rfl⟩
  · rintro ⟨h1, h2⟩ k hk
    have hk' := List.mem_range.mp hk
    rw [List.nodup_iff_pairwise_ne, List.pairwise_map, List.pairwise_iff_getElem] at h2
    unfold badI
    rw [List.getElem?_eq_getElem hk']
    simp only [Bool.not_eq_true, Bool.or_eq_false_iff, Bool.not_eq_false', List.any_eq_false]
    refine ⟨h1 _ (List.getElem_mem hk'), fun y hy => ?_⟩
    obtain ⟨i, hi, rfl⟩ := List.mem_take_iff_getElem.mp hy
    have := h2 i k (by omega) hk' (by omega)
    simpa using this
theorem kOk_iff {l : List Item} {nx now hor : Int} : kOk l nx now hor = true ↔ Heap l ∧ Soft l nx now hor := by
  rw [kOk_eq]
  simp only [Bool.not_eq_true', Bool.or_eq_false_iff, decide_eq_false_iff_not, Bool.not_eq_false', bad_none, checkB_heap]
  constructor
  · rintro ⟨⟨⟨⟨h1, h2⟩, h3⟩, h4, h5⟩, h6, h7⟩
    exact ⟨h4, by omega, by omega, h3, h5, h6, h7⟩
  · rintro ⟨h4, h1, h2, h3, h5, h6, h7⟩
    exact ⟨⟨⟨⟨by omega, by omega⟩, h3⟩, h4, h5⟩, h6, h7⟩
theorem Kq.good_iff {q : Kq} : q.good = true ↔ Heap q.l ∧ Soft q.l q.nx q.now q.hor := kOk_iff
theorem Kq.good_of {q p : Kq} (h : q.good = true) (hp : List.Perm q.l p.l) (hh : Heap p.l) (e1 : p.nx = q.nx) (e2 : p.now = q.now) (e3 : p.hor = q.hor) : p.good = true := by
  rw [Kq.good_iff] at *
  rw [e1, e2, e3]
  exact ⟨hh, h.2.perm hp⟩
theorem itemOk_iff {nx now : Int} {x : Item} : itemOk nx now x = true ↔ mayB x.a = true ∧ now ≤ x.a ∧ 0 ≤ x.c ∧ x.c ≤ 15 ∧ x.s < nx := by
  unfold itemOk
  simp only [Bool.not_eq_true', Bool.or_eq_false_iff, Bool.not_eq_false', decide_eq_false_iff_not]
  constructor
  · rintro ⟨⟨⟨⟨h1, h2⟩, h3⟩, h4⟩, h5⟩
    exact ⟨h1, by omega, by omega, by omega, by omega⟩
  · rintro ⟨h1, h2, h3, h4, h5⟩
    exact ⟨⟨⟨⟨h1, by omega⟩, by omega⟩, by omega⟩, by omega⟩
/-! ### Post -/
theorem Kq.postE_bad {q : Kq} (h : q.good = false) (a k : Int) : q.postE a k = 1 := by
  have h' : kOk q.l q.nx q.now q.hor = false := h
  unfold Kq.postE Q.postE
  rw [h']; rfl
theorem Kq.postE_good {q : Kq} (h : q.good = true) (a k : Int) : q.postE a k = if (!mayB a || decide (k < 0) || decide (k > 15)) then 1 else if decide (a < q.now) then 2 else if q.nx == 18446744073709551615 then 7 else if q.l.length = 4096 then 7 else 0 := by
  have h' : kOk q.l q.nx q.now q.hor = true := h
  have hc := kOk_check h'
  unfold Kq.postE Q.postE pushE
  rw [h', if_pos rfl, if_pos hc]
structure PostOk (q : Kq) (a k : Int) : Prop where
  good : q.good = true
  may : mayB a = true
  k0 : 0 ≤ k
  k15 : k ≤ 15
  at_ : q.now ≤ a
  nx : q.nx ≠ 18446744073709551615
  len : q.l.length < 4096
theorem Kq.len_good {q : Kq} (h : q.good = true) : q.l.length ≤ 4096 := (Kq.good_iff.mp h).2.len
theorem Kq.postE_zero {q : Kq} {a k : Int} : q.postE a k = 0 ↔ PostOk q a k := by
  constructor
  · intro h
    cases hg : q.good with
    | false => rw [Kq.postE_bad hg] at h; cases h
    | true =>
      rw [Kq.postE_good hg] at h
      have := Kq.len_good hg
      split at h
      · cases h
      · rename_i h1
        split at h
        · cases h
        · rename_i h2
          split at h
          · cases h
          · rename_i h3
            split at h
            · cases h
            · rename_i h4
              simp only [Bool.or_eq_true, Bool.not_eq_true', decide_eq_true_eq, not_or, Bool.not_eq_false] at h1
              simp only [decide_eq_true_eq] at h2
              simp only [beq_iff_eq] at h3
              exact ⟨hg, h1.1.1, by omega, by omega, by omega, h3, by omega⟩
  · rintro ⟨hg, h1, h2, h3, h4, h5, h6⟩
    rw [Kq.postE_good hg]
    have a1 : decide (k < 0) = false := by simp; omega
    have a2 : decide (k > 15) = false := by simp; omega
    have a3 : decide (a < q.now) = false := by simp; omega
    have a4 : (q.nx == 18446744073709551615) = false := by simpa using h5
    rw [h1, a1, a2, a3, a4]
    simp
    omega
theorem Kq.post_perm {q : Kq} {a k w h m : Int} (e : q.postE a k = 0) : List.Perm (q.post a k w h m).l (q.item a k w h m :: q.l) := by
  rw [post_some e]
  exact pushV_perm (post_zero e).2
theorem Kq.post_good {q : Kq} {a k w h m : Int} (e : q.postE a k = 0) : (q.post a k w h m).good = true := by
  have ho := Kq.postE_zero.mp e
  have hp := Kq.post_perm (w := w) (h := h) (m := m) e
  obtain ⟨g1, g2⟩ := Kq.good_iff.mp ho.good
  rw [Kq.good_iff]
  rw [post_some e] at hp ⊢
  simp only at hp ⊢
  refine ⟨pushV_heap (post_zero e).2, g2.n0, g2.nh, g2.may, ?_, fun x hx => ?_, ?_⟩
  · rw [hp.length_eq, List.length_cons]; have := ho.len; omega
  · rcases List.mem_cons.mp (hp.mem_iff.mp hx) with rfl | hx
    · rw [itemOk_iff]
      exact ⟨ho.may, ho.at_, ho.k0, ho.k15, by show q.nx < q.nx + 1; omega⟩
    · have := itemOk_iff.mp (g2.items x hx)
      rw [itemOk_iff]
      exact ⟨this.1, this.2.1, this.2.2.1, this.2.2.2.1, by omega⟩
  · rw [(hp.map _).nodup_iff, List.map_cons, List.nodup_cons]
    refine ⟨fun hx => ?_, g2.nd⟩
    obtain ⟨y, hy, e⟩ := List.mem_map.mp hx
    have := (itemOk_iff.mp (g2.items y hy)).2.2.2.2
    have e' : y.s = q.nx := e
    omega
/-! ### Cancel -/
theorem Kq.cancelE_good {q : Kq} (h : q.good = true) (t : Int) : q.cancelE t = takeE q.l t := by
  have h' : kOk q.l q.nx q.now q.hor = true := h
  unfold Kq.cancelE Q.cancelE
  rw [h']; rfl
theorem Kq.cancel_not {q : Kq} (h : q.good = true) {t : Int} (hn : ∀ x ∈ q.l, x.s ≠ t) : q.cancelE t = 8 := by
  have h' : kOk q.l q.nx q.now q.hor = true := h
  rw [Kq.cancelE_good h]
  refine takeE_none (kOk_check h') ?_
  rcases takeF_spec q.l t q.l.length (Nat.le_refl _) with ⟨h1, _⟩ | ⟨a, h1, h2, h3, h4⟩
  · exact h1
  · exact absurd h3 (hn _ (g_mem h2))
theorem Kq.cancel_has {q : Kq} (h : q.good = true) {x : Item} (hx : x ∈ q.l) : q.cancelE x.s = 0 ∧ List.Perm q.l (x :: (q.cancel x.s).l) ∧ (q.cancel x.s).good = true := by
  have h' : kOk q.l q.nx q.now q.hor = true := h
  obtain ⟨g1, g2⟩ := Kq.good_iff.mp h
  have e : q.cancelE x.s = 0 := by
    rw [Kq.cancelE_good h]
    refine takeE_ok (kOk_check h') ?_
    rcases takeF_spec q.l x.s q.l.length (Nat.le_refl _) with ⟨h1, h2⟩ | ⟨a, h1, h2, h3, h4⟩
    · obtain ⟨i, hi, rfl⟩ := List.getElem_of_mem hx
      have := h2 i hi
      rw [g_of (List.getElem?_eq_getElem hi)] at this
      simp at this
    · omega
  obtain ⟨h1, h2, a, h3, h4, h5⟩ := takeE_zero (cancel_zero e)
  have hv : takeV q.l x.s = withoutL q.l a := by
    unfold takeV
    rw [if_pos (cancel_zero e), h3, Int.toNat_natCast]
  have hgx : g q.l a = x := by
    have nd := g2.nd
    rw [List.nodup_iff_pairwise_ne, List.pairwise_map, List.pairwise_iff_getElem] at nd
    obtain ⟨i, hi, rfl⟩ := List.getElem_of_mem hx
    rw [g_of (List.getElem?_eq_getElem h4)] at h5 ⊢
    rcases Nat.lt_trichotomy a i with hh | hh | hh
    · exact absurd h5 (nd a i h4 hi hh)
    · subst hh; rfl
    · exact absurd h5.symm (nd i a hi h4 hh)
  have hp : List.Perm q.l (x :: withoutL q.l a) := by
    have h6 : q.l[a]? = some x := by rw [g_at h4, hgx]
    exact (erase_perm h6).trans ((withoutL_perm h4).symm.cons x)
  rw [cancel_some e, hv]
  refine ⟨e, hp, ?_⟩
  rw [Kq.good_iff]
  have hs := g2.perm hp
  refine ⟨withoutL_heap h1 h4, hs.n0, hs.nh, hs.may, ?_, fun y hy => hs.items y (List.mem_cons_of_mem _ hy), ?_⟩
  · have := hs.len; rw [List.length_cons] at this; show (withoutL q.l a).length ≤ 4096; omega
  · have := hs.nd
    rw [List.map_cons, List.nodup_cons] at this
    exact this.2
theorem Kq.cancel_cases {q : Kq} (h : q.good = true) (t : Int) : (q.cancelE t = 0 ∧ ∃ x ∈ q.l, x.s = t ∧ List.Perm q.l (x :: (q.cancel t).l) ∧ (q.cancel t).good = true) ∨ (q.cancelE t = 8 ∧ ∀ x ∈ q.l, x.s ≠ t) := by
  by_cases hx : ∃ x ∈ q.l, x.s = t
  · obtain ⟨x, hx, rfl⟩ := hx
    obtain ⟨h1, h2, h3⟩ := Kq.cancel_has h hx
    exact .inl ⟨h1, x, hx, rfl, h2, h3⟩
  · have hn : ∀ x ∈ q.l, x.s ≠ t := fun x h1 h2 => hx ⟨x, h1, h2⟩
    exact .inr ⟨Kq.cancel_not h hn, hn⟩
/-! ### Step -/
theorem ilt_at {x y : Item} (h : ilt y x = false) : x.a ≤ y.a := by
  unfold ilt at h
  rw [decide_eq_false_iff_not] at h
  simp only [Item.key, cmpL_neg, cmpL_nil] at h
  omega
theorem Kq.stepE_bad {q : Kq} (h : q.good = false) : q.stepE = 1 := by
  have h' : kOk q.l q.nx q.now q.hor = false := h
  unfold Kq.stepE Q.stepE Q.peekE
  rw [h']; rfl
theorem Kq.stepE_good {q : Kq} (h : q.good = true) : q.stepE = if q.l = [] then 8 else if decide ((g q.l 0).a > q.hor) then 2 else 0 := by
  have h' : kOk q.l q.nx q.now q.hor = true := h
  unfold Kq.stepE Q.stepE Q.peekE
  rw [h', if_pos rfl]
  by_cases he : q.l = []
  · rw [if_pos he, if_pos he]; rfl
  · rw [if_neg he, if_neg he, if_pos rfl]
structure StepOk (q : Kq) : Prop where
  good : q.good = true
  perm : List.Perm q.l (q.stepX :: q.step.l)
  at_ : q.stepX.a ≤ q.hor
  first : ∀ z ∈ q.l, ilt z q.stepX = false
  now : q.step.now = q.stepX.a
  good' : q.step.good = true
theorem Kq.step_ok0 {q : Kq} (e : q.stepE = 0) : StepOk q := by
  have hg : q.good = true := by
    cases hg : q.good with
    | true => rfl
    | false => rw [Kq.stepE_bad hg] at e; cases e
  have hz := step_zero e
  have e' := e
  rw [Kq.stepE_good hg] at e'
  have hx : q.stepX = g q.l 0 := by
    have e2 : Q.stepE q.l q.nx q.now q.hor = 0 := e
    unfold Kq.stepX sX
    rw [if_pos e2]
  have hpx : popX q.l = g q.l 0 := by unfold popX; rw [if_pos hz]
  have hp := popV_perm hz
  have hf := pop_first hz
  rw [hpx] at hp hf
  have hat : (g q.l 0).a ≤ q.hor := by
    split at e'
    · cases e'
    · split at e'
      · cases e'
      · rename_i h; simp only [decide_eq_true_eq] at h; omega
  obtain ⟨g1, g2⟩ := Kq.good_iff.mp hg
  have hs := g2.perm hp
  have hm : g q.l 0 ∈ q.l := hp.mem_iff.mpr List.mem_cons_self
  have hok := itemOk_iff.mp (g2.items _ hm)
  refine ⟨hg, by rw [hx, step_some e]; exact hp, by rw [hx]; exact hat, by rw [hx]; exact hf, by rw [hx, step_some e], ?_⟩
  rw [step_some e, Kq.good_iff]
  refine ⟨popV_heap hz, by have := g2.n0; have := hok.2.1; show 0 ≤ (g q.l 0).a; omega, hat, g2.may, ?_, fun y hy => ?_, ?_⟩
  · have := hs.len; rw [List.length_cons] at this; show (popV q.l).length ≤ 4096; omega
  · have hy' : y ∈ q.l := hp.mem_iff.mpr (List.mem_cons_of_mem _ hy)
    have h1 := itemOk_iff.mp (g2.items y hy')
    have h2 := ilt_at (hf y hy')
    rw [itemOk_iff]
    exact ⟨h1.1, h2, h1.2.2.1, h1.2.2.2.1, h1.2.2.2.2⟩
  · have := hs.nd
    rw [List.map_cons, List.nodup_cons] at this
    exact this.2
/-! ### two alike -/
structure Sim (q p : Kq) : Prop where
  nx : q.nx = p.nx
  now : q.now = p.now
  hor : q.hor = p.hor
  perm : List.Perm q.l p.l
  good : q.good = p.good
theorem Sim.refl (q : Kq) : Sim q q := ⟨rfl, rfl, rfl, .refl _, rfl⟩
theorem same_of {q p : Kq} (h1 : q.nx = p.nx) (h2 : q.now = p.now) (h3 : q.hor = p.hor) (h4 : List.Perm q.l p.l) : q.same p = true := by
  unfold Kq.same ksame
  rw [h1, h2, h3, sortL_congr h4]
  simp
theorem Sim.same {q p : Kq} (h : Sim q p) : q.same p = true := same_of h.nx h.now h.hor h.perm
theorem Sim.tidy (q : Kq) : Sim q q.tidy := by
  cases hg : q.good with
  | false => exact ⟨rfl, rfl, rfl, by rw [tidy_no hg], by unfold Kq.good; rw [tidy_no hg]; rfl⟩
  | true =>
    have hp : List.Perm q.l q.tidy.l := by rw [tidy_yes hg]; exact (sortL_perm _).symm
    refine ⟨rfl, rfl, rfl, hp, ?_⟩
    rw [hg]
    exact (Kq.good_of hg hp (by rw [tidy_yes hg]; exact sorted_heap (sortL_sorted _)) rfl rfl rfl).symm
theorem heap_head {l m : List Item} (h1 : Heap l) (h2 : Heap m) (p : List.Perm l m) (hne : l ≠ []) : g l 0 = g m 0 := by
  have hl : 0 < l.length := List.length_pos_iff.mpr hne
  have hm : 0 < m.length := by rw [← p.length_eq]; exact hl
  obtain ⟨t, e1, _⟩ := sortL_first h1 (g_at hl)
  obtain ⟨t', e2, _⟩ := sortL_first h2 (g_at hm)
  rw [sortL_congr p, e2] at e1
  exact ((List.cons.inj e1).1).symm
theorem Sim.step {q p : Kq} (h : Sim q p) : q.stepE = p.stepE ∧ q.stepX = p.stepX ∧ Sim q.step p.step := by
  cases hg : q.good with
  | false =>
    have hg' : p.good = false := by rw [← h.good]; exact hg
    have e1 := Kq.stepE_bad hg
    have e2 := Kq.stepE_bad hg'
    refine ⟨by rw [e1, e2], ?_, by rw [step_none (by rw [e1]; decide), step_none (by rw [e2]; decide)]; exact h⟩
    have a1 : ¬ Q.stepE q.l q.nx q.now q.hor = 0 := by show ¬ q.stepE = 0; rw [e1]; decide
    have a2 : ¬ Q.stepE p.l p.nx p.now p.hor = 0 := by show ¬ p.stepE = 0; rw [e2]; decide
    unfold Kq.stepX sX
    rw [if_neg a1, if_neg a2]
  | true =>
    have hg' : p.good = true := by rw [← h.good]; exact hg
    have g1 := (Kq.good_iff.mp hg).1
    have g2 := (Kq.good_iff.mp hg').1
    have hE : q.stepE = p.stepE := by
      rw [Kq.stepE_good hg, Kq.stepE_good hg', h.hor]
      by_cases hn : q.l = []
      · have : p.l = [] := by have := h.perm; rw [hn] at this; exact List.Perm.nil_eq this |>.symm
        rw [if_pos hn, if_pos this]
      · have : p.l ≠ [] := fun e => hn (by have := h.perm; rw [e] at this; exact List.Perm.eq_nil this)
        rw [if_neg hn, if_neg this, heap_head g1 g2 h.perm hn]
    by_cases e : q.stepE = 0
    · have e2 : p.stepE = 0 := by rw [← hE]; exact e
      have s1 := Kq.step_ok0 e
      have s2 := Kq.step_ok0 e2
      have hX : q.stepX = p.stepX := by
        have e1' : Q.stepE q.l q.nx q.now q.hor = 0 := e
        have e2' : Q.stepE p.l p.nx p.now p.hor = 0 := e2
        unfold Kq.stepX sX
        rw [if_pos e1', if_pos e2']
        refine heap_head g1 g2 h.perm fun hn => ?_
        rw [Kq.stepE_good hg, if_pos hn] at e
        cases e
      refine ⟨hE, hX, h.nx, by rw [s1.now, s2.now, hX], h.hor, ?_, by rw [s1.good', s2.good']⟩
      have := s1.perm.symm.trans (h.perm.trans s2.perm)
      rw [hX] at this
      exact List.Perm.cons_inv this
    · have e2 : ¬ p.stepE = 0 := by rw [← hE]; exact e
      have a1 : ¬ Q.stepE q.l q.nx q.now q.hor = 0 := e
      have a2 : ¬ Q.stepE p.l p.nx p.now p.hor = 0 := e2
      refine ⟨hE, ?_, by rw [step_none e, step_none e2]; exact h⟩
      unfold Kq.stepX sX
      rw [if_neg a1, if_neg a2]
theorem Sim.post {q p : Kq} (h : Sim q p) (a k w i m : Int) : q.postE a k = p.postE a k ∧ q.tok a k = p.tok a k ∧ Sim (q.post a k w i m) (p.post a k w i m) := by
  have hE : q.postE a k = p.postE a k := by
    cases hg : q.good with
    | false =>
      have hg' : p.good = false := by rw [← h.good]; exact hg
      rw [Kq.postE_bad hg, Kq.postE_bad hg']
    | true =>
      have hg' : p.good = true := by rw [← h.good]; exact hg
      rw [Kq.postE_good hg, Kq.postE_good hg', h.now, h.nx, h.perm.length_eq]
  refine ⟨hE, ?_, ?_⟩
  · have hE' : Q.postE q.l q.nx q.now q.hor a k = Q.postE p.l p.nx p.now p.hor a k := hE
    unfold Kq.tok pQ
    rw [hE', h.nx]
  · by_cases e : q.postE a k = 0
    · have e2 : p.postE a k = 0 := by rw [← hE]; exact e
      have p1 := Kq.post_perm (w := w) (h := i) (m := m) e
      have p2 := Kq.post_perm (w := w) (h := i) (m := m) e2
      have g1 := Kq.post_good (w := w) (h := i) (m := m) e
      have g2 := Kq.post_good (w := w) (h := i) (m := m) e2
      have hi : q.item a k w i m = p.item a k w i m := by unfold Kq.item; rw [h.nx]
      refine ⟨?_, ?_, ?_, p1.trans (by rw [hi]; exact (h.perm.cons _).trans p2.symm), by rw [g1, g2]⟩
      · rw [post_some e, post_some e2]; show q.nx + 1 = p.nx + 1; rw [h.nx]
      · exact h.now
      · exact h.hor
    · have e2 : ¬ p.postE a k = 0 := by rw [← hE]; exact e
      rw [post_none e, post_none e2]; exact h
end Go.Det.Q

/- KernelDoes: the law's own text. -/
namespace Go.Det.Q
open Go Go.Det Go.Proofs
set_option maxRecDepth 4000
set_option maxHeartbeats 16000000
set_option linter.unusedVariables false
set_option linter.unusedSimpArgs false
theorem few_no {q : Kq} {A H : DH} {bs : List (Nat × DObj)} {fs : List (DH → Prop)} {s : Sv} {K : DV → DH → Prop} (hno : decide ((q.l.length : Int) ≤ 200) = false) (hB : Bx A H bs fs) (hm : InF (Is s.dv q.l) fs) (hk : K (.bool false) H) : CallWp Try.prog K5 35 [.agg [s.dv, .int .u64 q.nx, .int .i64 q.now, .int .i64 q.hor]] H K :=
  few_b hB hm (by rw [hno]; exact hk)
theorem few_yes {q : Kq} {A H : DH} {bs : List (Nat × DObj)} {fs : List (DH → Prop)} {s : Sv} {K : DV → DH → Prop} (hno : decide ((q.l.length : Int) ≤ 200) = true) (hB : Bx A H bs fs) (hm : InF (Is s.dv q.l) fs) (hk : K (.bool true) H) : CallWp Try.prog K5 35 [.agg [s.dv, .int .u64 q.nx, .int .i64 q.now, .int .i64 q.hor]] H K :=
  few_b hB hm (by rw [hno]; exact hk)
theorem kq_arg {H : DH} (hw : WF H) {d : DV} (h : TArg Try.prog H 48 d) : ∃ (s : Sv) (q : Kq), d = .agg [s.dv, .int .u64 q.nx, .int .i64 q.now, .int .i64 q.hor] ∧ Its H s.dv q.l ∧ (∀ x ∈ q.l, x.ok) ∧ u64ok q.nx ∧ i64ok q.now ∧ i64ok q.hor := by
  obtain ⟨p, c, ex, l, nx, now, hor, rfl, hl, h1, h2, h3, h4⟩ := kern_arg hw h
  exact ⟨⟨p, l.length, c, ex⟩, ⟨l, nx, now, hor⟩, rfl, ⟨p, c, ex, rfl, hl⟩, h1, h2, h3, h4⟩
end Go.Det.Q

/- KernelTells: the law's own text. -/
namespace Go.Det.Q
open Go Go.Det Go.Proofs
set_option maxRecDepth 4000
set_option maxHeartbeats 16000000
set_option linter.unusedVariables false
set_option linter.unusedSimpArgs false
theorem few_dec (l : List Item) : decide ((l.length : Int) ≤ 200) = false ∨ (decide ((l.length : Int) ≤ 200) = true ∧ l.length ≤ 1000000 ∧ l.length ≤ 200) := by
  cases h : decide ((l.length : Int) ≤ 200) with
  | false => exact .inl rfl
  | true => rw [decide_eq_true_eq] at h; exact .inr ⟨rfl, by omega, by omega⟩
end Go.Det.Q

/- KernelBack, KernelApart: the laws' own texts. -/
namespace Go.Det.Q
open Go Go.Det Go.Proofs
set_option maxRecDepth 4000
set_option maxHeartbeats 16000000
set_option linter.unusedVariables false
set_option linter.unusedSimpArgs false
theorem op_len_b {A H : DH} {bs : List (Nat × DObj)} {fs : List (DH → Prop)} {s : Sv} {l : List Item} {o : Oper} {x : Operand} {env : List DV} {K : DV → DH → Prop} (ho : o.op = .call ⟨.builtin .len, #[x], #[23]⟩) (hx : evalO env x = some s.dv) (hB : Bx A H bs fs) (hm : InF (Is s.dv l) fs) (hk : K (.int .i64 l.length) H) : OpWp Try.prog K5 o env H K := by
  refine op_at (v := .int .i64 l.length) (H' := H) ?_ hk
  have hl := len_t (hB.has hm)
  simp only [opD, ho, mover, reader, pureD, hx, Try.underlying23, hl]
  rfl
theorem tok_zero {q : Kq} {a k : Int} (e : q.postE a k = 0) : q.tok a k = q.nx := by
  have e' : Q.postE q.l q.nx q.now q.hor a k = 0 := e
  unfold Kq.tok pQ; rw [if_pos e']
/-- What is posted, and another one cancelled, either way round. -/
theorem apart_facts {q : Kq} (hq : q.ok) {a k t : Int} (ht : t < q.nx) :
    (q.postE a k ≠ 0 → (q.postE a k != 2) = true ∨ ((q.postE a k != 2) = false ∧ ((q.cancel t).postE a k == q.postE a k) = true)) ∧
    (q.postE a k = 0 → ((q.post a k 1 2 3).cancelE t != q.cancelE t) = false ∧ ((q.post a k 1 2 3).cancelE t = 0 → ((q.cancel t).postE a k == 0) = true ∧ (q.tok a k == (q.cancel t).tok a k) = true ∧
      ((q.post a k 1 2 3).cancel t).same ((q.cancel t).post a k 1 2 3) = true ∧ ((((q.post a k 1 2 3).cancel t).l.length : Int) == (q.l.length : Int)) = true)) := by
  refine ⟨fun e => ?_, fun e => ?_⟩
  · by_cases e2 : q.postE a k = 2
    · right
      rw [e2]
      refine ⟨rfl, ?_⟩
      cases hg : q.good with
      | false => rw [Kq.postE_bad hg] at e2; cases e2
      | true =>
        have hC : (q.cancel t).good = true := by
          rcases Kq.cancel_cases hg t with ⟨h1, x, hx, hs, hp, hg'⟩ | ⟨h1, _⟩
          · exact hg'
          · rw [cancel_none (by rw [h1]; decide)]; exact hg
        have : (q.cancel t).postE a k = 2 := by
          rw [Kq.postE_good hg] at e2
          rw [Kq.postE_good hC]
          have f1 : (q.cancel t).now = q.now := rfl
          rw [f1]
          split at e2
          · cases e2
          · rename_i h1
            split at e2
            · rename_i h2; rw [if_neg h1, if_pos h2]
            · split at e2
              · cases e2
              · split at e2 <;> cases e2
        rw [this]; rfl
    · left
      simpa using e2
  · have ho := Kq.postE_zero.mp e
    have hg := Kq.post_good (w := 1) (h := 2) (m := 3) e
    have hp := Kq.post_perm (w := 1) (h := 2) (m := 3) e
    rcases Kq.cancel_cases ho.good t with ⟨h1, x, hx, hs, hpC, hgC⟩ | ⟨h1, hnot⟩
    · subst hs
      obtain ⟨c1, c2, c3⟩ := Kq.cancel_has hg (hp.mem_iff.mpr (List.mem_cons_of_mem _ hx))
      rw [c1, h1]
      refine ⟨rfl, fun _ => ?_⟩
      have hlen := hpC.length_eq
      rw [List.length_cons] at hlen
      have hz : (q.cancel x.s).postE a k = 0 := Kq.postE_zero.mpr ⟨hgC, ho.may, ho.k0, ho.k15, ho.at_, ho.nx, by have := ho.len; omega⟩
      have hBC : List.Perm ((q.post a k 1 2 3).cancel x.s).l (q.item a k 1 2 3 :: (q.cancel x.s).l) :=
        List.Perm.cons_inv (c2.symm.trans (hp.trans ((hpC.cons _).trans (List.Perm.swap _ _ _))))
      have hD := Kq.post_perm (w := 1) (h := 2) (m := 3) hz
      refine ⟨by rw [hz]; rfl, by rw [tok_zero e, tok_zero hz]; exact beq_self_eq_true _, same_of ?_ rfl rfl (hBC.trans hD.symm), ?_⟩
      · rw [post_some hz]; show (q.post a k 1 2 3).nx = q.nx + 1; rw [post_some e]
      · rw [hBC.length_eq, List.length_cons, hlen]; exact beq_self_eq_true _
    · have hn2 : (q.post a k 1 2 3).cancelE t = 8 := Kq.cancel_not hg fun y hy ey => by
        rcases List.mem_cons.mp (hp.mem_iff.mp hy) with rfl | hy
        · have : (q.item a k 1 2 3).s = q.nx := rfl
          omega
        · exact hnot y hy ey
      rw [hn2, h1]
      exact ⟨rfl, fun h => by cases h⟩
theorem law14 (H : DH) (s : Sv) (q : Kq) (a k t : Int) (h1 : Its H s.dv q.l) (hn : u64ok q.nx) :
    CallWp Try.prog K5 14 [.agg [s.dv, .int .u64 q.nx, .int .i64 q.now, .int .i64 q.hor], .int .i64 a, .int .i64 k, .int .u64 t] H (fun r H' => r = .bool true) := by
  have hB : Bx H H [] [Is s.dv q.l] := Bx.init (fun f hf => by rw [List.mem_singleton] at hf; subst hf; exact is_init h1)
  rcases few_dec q.l with hf | ⟨hf, hl, _⟩
  · skip
    refine enter rfl Try.func14 rfl Try.ntmps14 rfl ?_
    dsimp only [List.cons_append, List.nil_append, List.length_cons, List.length_nil, List.replicate_succ, List.replicate_zero, Nat.reduceAdd, Nat.reduceSub]
    repeat' (first
      | dsimp only [putD, DV.cells, DH.new_next, DH.set_next, List.length_cons, List.length_nil, Nat.reduceAdd, List.set_cons_zero, List.set_cons_succ, getD_zero, getD_succ, fieldAt_zero, fieldAt_succ, thenD, blockD, retR]
      | apply dwp_seq
      | apply dwp_region
      | apply ops_nil
      | (apply ops_plain; (· exact rfl))
      | (apply ops_off0; (· exact rfl); (· exact rfl); (· (first | with_reducible assumption | with_reducible rfl | decide)))
      | (apply op_call; (· exact rfl); (· exact rfl); (· exact rfl); refine call_table (g := gLive) rfl rfl ?_)
      | (apply op_call; (· exact rfl); (· exact rfl); (· exact rfl); (apply few_no (by with_reducible assumption); (· assumption); (· (repeat (first | with_reducible exact InF.here | with_reducible assumption | with_reducible apply InF.there)))))
      | (apply op_pick_t; (· exact rfl); (· exact rfl); (· (first | with_reducible assumption | with_reducible rfl | decide)); (· exact rfl))
      | (apply bx_load0; (· exact rfl); (· exact rfl); (· assumption); (· (repeat (first | with_reducible exact At.here | with_reducible apply At.there))); (· (first | exact part48 _ _ _ _ | exact part26 _ | exact part26' _ _ _ _ _ _ | exact rfl)))
      | (apply bx_box; (· exact rfl); (· exact rfl); (· (first | (dsimp only [putD, DV.cells, DH.new_next, DH.set_next, List.length_cons, List.length_nil, Nat.reduceAdd, List.set_cons_zero, List.set_cons_succ, getD_zero, getD_succ, fieldAt_zero, fieldAt_succ, thenD, blockD, retR, Sv.cells]; done) | (dsimp only [putD, DV.cells, DH.new_next, DH.set_next, List.length_cons, List.length_nil, Nat.reduceAdd, List.set_cons_zero, List.set_cons_succ, getD_zero, getD_succ, fieldAt_zero, fieldAt_succ, thenD, blockD, retR, Sv.cells]; exact rfl) | exact rfl)); (· exact rfl); (· exact rfl); (· assumption); intro b1 H1 hB)
      | (apply op_at; (· exact rfl))
      | (apply dwp_cond_t; (· exact rfl); (· (first | with_reducible assumption | with_reducible rfl | decide)))
      | apply dwp_ret
      | (refine ⟨_, rfl, ?_⟩)
      | fail)
  · have hq : q.ok := ⟨hl, hn⟩
    by_cases ht : t < q.nx
    · have hge : decide (t ≥ q.nx) = false := by simp; exact ht
      obtain ⟨f1, f2⟩ := apart_facts (a := a) (k := k) hq ht
      by_cases e : q.postE a k = 0
      · obtain ⟨n1, f3⟩ := f2 e
        have e0 : (q.postE a k == 0) = true := by rw [e]; rfl
        have e1 : (q.postE a k != 0) = false := by rw [e]; rfl
        have e2 : (q.postE a k != 2) = true := by rw [e]; rfl
        by_cases e3 : (q.post a k 1 2 3).cancelE t = 0
        · obtain ⟨m1, m2, m3, m4⟩ := f3 e3
          have e4 : ((q.post a k 1 2 3).cancelE t != 0) = false := by rw [e3]; rfl
          refine enter rfl Try.func14 rfl Try.ntmps14 rfl ?_
          dsimp only [List.cons_append, List.nil_append, List.length_cons, List.length_nil, List.replicate_succ, List.replicate_zero, Nat.reduceAdd, Nat.reduceSub]
          repeat' (first
            | dsimp only [putD, DV.cells, DH.new_next, DH.set_next, List.length_cons, List.length_nil, Nat.reduceAdd, List.set_cons_zero, List.set_cons_succ, getD_zero, getD_succ, fieldAt_zero, fieldAt_succ, thenD, blockD, retR]
            | apply dwp_seq
            | apply dwp_region
            | apply ops_nil
            | (apply ops_plain; (· exact rfl))
            | (apply ops_on; (· exact rfl); (· exact rfl); (· (first | with_reducible assumption | with_reducible rfl | decide)))
            | (apply ops_off1; (· exact rfl); (· exact rfl); (· (first | with_reducible assumption | with_reducible rfl | decide)))
            | (apply op_call; (· exact rfl); (· exact rfl); (· exact rfl); refine call_table (g := gLive) rfl rfl ?_)
            | (apply op_call; (· exact rfl); (· exact rfl); (· exact rfl); (apply few_yes (by with_reducible assumption); (· assumption); (· (repeat (first | with_reducible exact InF.here | with_reducible assumption | with_reducible apply InF.there)))))
            | (apply op_call; (· exact rfl); (· exact rfl); (· exact rfl); (apply post_b; (· assumption); (· (repeat (first | with_reducible exact InF.here | with_reducible assumption | with_reducible apply InF.there))); (· (repeat (first | assumption | apply Kq.post_ok | apply Kq.rpost_ok | apply Kq.cancel_ok | apply Kq.rcancel_ok | apply Kq.step_ok | apply Kq.rstep_ok | apply Kq.tidy_ok | apply kNew_ok))); intro s1 H1 hB))
            | (apply op_call; (· exact rfl); (· exact rfl); (· exact rfl); (apply cancel_b; (· assumption); (· (repeat (first | with_reducible exact InF.here | with_reducible assumption | with_reducible apply InF.there))); (· (repeat (first | assumption | apply Kq.post_ok | apply Kq.rpost_ok | apply Kq.cancel_ok | apply Kq.rcancel_ok | apply Kq.step_ok | apply Kq.rstep_ok | apply Kq.tidy_ok | apply kNew_ok))); intro s1 H1 hB))
            | (apply op_call; (· exact rfl); (· exact rfl); (· exact rfl); (apply psame_b; (· assumption); (· (repeat (first | with_reducible exact InF.here | with_reducible assumption | with_reducible apply InF.there))); (· (repeat (first | with_reducible exact InF.here | with_reducible assumption | with_reducible apply InF.there))); (· (repeat (first | assumption | apply Kq.post_ok | apply Kq.rpost_ok | apply Kq.cancel_ok | apply Kq.rcancel_ok | apply Kq.step_ok | apply Kq.rstep_ok | apply Kq.tidy_ok | apply kNew_ok))); (· (repeat (first | assumption | apply Kq.post_ok | apply Kq.rpost_ok | apply Kq.cancel_ok | apply Kq.rcancel_ok | apply Kq.step_ok | apply Kq.rstep_ok | apply Kq.tidy_ok | apply kNew_ok))); intro H1 hab hB))
            | (apply op_pick_t; (· exact rfl); (· exact rfl); (· (first | with_reducible assumption | with_reducible rfl | decide)); (· exact rfl))
            | (apply op_pick_f; (· exact rfl); (· exact rfl); (· (first | with_reducible assumption | with_reducible rfl | decide)); (· exact rfl))
            | (apply op_len_b; (· exact rfl); (· exact rfl); (· assumption); (· (repeat (first | with_reducible exact InF.here | with_reducible assumption | with_reducible apply InF.there))))
            | (apply bx_load0; (· exact rfl); (· exact rfl); (· assumption); (· (repeat (first | with_reducible exact At.here | with_reducible apply At.there))); (· (first | exact part48 _ _ _ _ | exact part26 _ | exact part26' _ _ _ _ _ _ | exact rfl)))
            | (apply bx_store0; (· exact rfl); (· exact rfl); (· exact rfl); (· assumption); (· (first | (dsimp only [putD, DV.cells, DH.new_next, DH.set_next, List.length_cons, List.length_nil, Nat.reduceAdd, List.set_cons_zero, List.set_cons_succ, getD_zero, getD_succ, fieldAt_zero, fieldAt_succ, thenD, blockD, retR, Sv.cells]; done) | (dsimp only [putD, DV.cells, DH.new_next, DH.set_next, List.length_cons, List.length_nil, Nat.reduceAdd, List.set_cons_zero, List.set_cons_succ, getD_zero, getD_succ, fieldAt_zero, fieldAt_succ, thenD, blockD, retR, Sv.cells]; exact rfl) | exact rfl)); (· (repeat (first | with_reducible exact Upd.here | with_reducible apply Upd.there))); (· exact rfl); (· exact rfl); (· exact rfl); (· exact rfl); intro H1 hB)
            | (apply bx_box; (· exact rfl); (· exact rfl); (· (first | (dsimp only [putD, DV.cells, DH.new_next, DH.set_next, List.length_cons, List.length_nil, Nat.reduceAdd, List.set_cons_zero, List.set_cons_succ, getD_zero, getD_succ, fieldAt_zero, fieldAt_succ, thenD, blockD, retR, Sv.cells]; done) | (dsimp only [putD, DV.cells, DH.new_next, DH.set_next, List.length_cons, List.length_nil, Nat.reduceAdd, List.set_cons_zero, List.set_cons_succ, getD_zero, getD_succ, fieldAt_zero, fieldAt_succ, thenD, blockD, retR, Sv.cells]; exact rfl) | exact rfl)); (· exact rfl); (· exact rfl); (· assumption); intro b1 H1 hB)
            | (apply bx_alloc; (· exact rfl); (· exact zero48); (· (first | (dsimp only [putD, DV.cells, DH.new_next, DH.set_next, List.length_cons, List.length_nil, Nat.reduceAdd, List.set_cons_zero, List.set_cons_succ, getD_zero, getD_succ, fieldAt_zero, fieldAt_succ, thenD, blockD, retR, Sv.cells]; done) | (dsimp only [putD, DV.cells, DH.new_next, DH.set_next, List.length_cons, List.length_nil, Nat.reduceAdd, List.set_cons_zero, List.set_cons_succ, getD_zero, getD_succ, fieldAt_zero, fieldAt_succ, thenD, blockD, retR, Sv.cells]; exact rfl) | exact rfl)); (· exact rfl); (· exact rfl); (· assumption); intro b1 H1 hB)
            | (apply op_at; (· exact rfl))
            | (apply dwp_cond_f; (· exact rfl); (· (first | with_reducible assumption | with_reducible rfl | decide)))
            | apply dwp_skip
            | apply dwp_ret
            | (refine ⟨_, rfl, ?_⟩)
            | fail)
          all_goals first | rfl | (exfalso; simp_all; done) | (rw [m4]; done) | simp_all
        · have e4 : ((q.post a k 1 2 3).cancelE t != 0) = true := by simpa using e3
          refine enter rfl Try.func14 rfl Try.ntmps14 rfl ?_
          dsimp only [List.cons_append, List.nil_append, List.length_cons, List.length_nil, List.replicate_succ, List.replicate_zero, Nat.reduceAdd, Nat.reduceSub]
          repeat' (first
            | dsimp only [putD, DV.cells, DH.new_next, DH.set_next, List.length_cons, List.length_nil, Nat.reduceAdd, List.set_cons_zero, List.set_cons_succ, getD_zero, getD_succ, fieldAt_zero, fieldAt_succ, thenD, blockD, retR]
            | apply dwp_seq
            | apply dwp_region
            | apply ops_nil
            | (apply ops_plain; (· exact rfl))
            | (apply ops_on; (· exact rfl); (· exact rfl); (· (first | with_reducible assumption | with_reducible rfl | decide)))
            | (apply ops_off1; (· exact rfl); (· exact rfl); (· (first | with_reducible assumption | with_reducible rfl | decide)))
            | (apply ops_off0; (· exact rfl); (· exact rfl); (· (first | with_reducible assumption | with_reducible rfl | decide)))
            | (apply op_call; (· exact rfl); (· exact rfl); (· exact rfl); refine call_table (g := gLive) rfl rfl ?_)
            | (apply op_call; (· exact rfl); (· exact rfl); (· exact rfl); (apply few_yes (by with_reducible assumption); (· assumption); (· (repeat (first | with_reducible exact InF.here | with_reducible assumption | with_reducible apply InF.there)))))
            | (apply op_call; (· exact rfl); (· exact rfl); (· exact rfl); (apply post_b; (· assumption); (· (repeat (first | with_reducible exact InF.here | with_reducible assumption | with_reducible apply InF.there))); (· (repeat (first | assumption | apply Kq.post_ok | apply Kq.rpost_ok | apply Kq.cancel_ok | apply Kq.rcancel_ok | apply Kq.step_ok | apply Kq.rstep_ok | apply Kq.tidy_ok | apply kNew_ok))); intro s1 H1 hB))
            | (apply op_call; (· exact rfl); (· exact rfl); (· exact rfl); (apply cancel_b; (· assumption); (· (repeat (first | with_reducible exact InF.here | with_reducible assumption | with_reducible apply InF.there))); (· (repeat (first | assumption | apply Kq.post_ok | apply Kq.rpost_ok | apply Kq.cancel_ok | apply Kq.rcancel_ok | apply Kq.step_ok | apply Kq.rstep_ok | apply Kq.tidy_ok | apply kNew_ok))); intro s1 H1 hB))
            | (apply op_pick_t; (· exact rfl); (· exact rfl); (· (first | with_reducible assumption | with_reducible rfl | decide)); (· exact rfl))
            | (apply op_pick_f; (· exact rfl); (· exact rfl); (· (first | with_reducible assumption | with_reducible rfl | decide)); (· exact rfl))
            | (apply bx_load0; (· exact rfl); (· exact rfl); (· assumption); (· (repeat (first | with_reducible exact At.here | with_reducible apply At.there))); (· (first | exact part48 _ _ _ _ | exact part26 _ | exact part26' _ _ _ _ _ _ | exact rfl)))
            | (apply bx_store0; (· exact rfl); (· exact rfl); (· exact rfl); (· assumption); (· (first | (dsimp only [putD, DV.cells, DH.new_next, DH.set_next, List.length_cons, List.length_nil, Nat.reduceAdd, List.set_cons_zero, List.set_cons_succ, getD_zero, getD_succ, fieldAt_zero, fieldAt_succ, thenD, blockD, retR, Sv.cells]; done) | (dsimp only [putD, DV.cells, DH.new_next, DH.set_next, List.length_cons, List.length_nil, Nat.reduceAdd, List.set_cons_zero, List.set_cons_succ, getD_zero, getD_succ, fieldAt_zero, fieldAt_succ, thenD, blockD, retR, Sv.cells]; exact rfl) | exact rfl)); (· (repeat (first | with_reducible exact Upd.here | with_reducible apply Upd.there))); (· exact rfl); (· exact rfl); (· exact rfl); (· exact rfl); intro H1 hB)
            | (apply bx_box; (· exact rfl); (· exact rfl); (· (first | (dsimp only [putD, DV.cells, DH.new_next, DH.set_next, List.length_cons, List.length_nil, Nat.reduceAdd, List.set_cons_zero, List.set_cons_succ, getD_zero, getD_succ, fieldAt_zero, fieldAt_succ, thenD, blockD, retR, Sv.cells]; done) | (dsimp only [putD, DV.cells, DH.new_next, DH.set_next, List.length_cons, List.length_nil, Nat.reduceAdd, List.set_cons_zero, List.set_cons_succ, getD_zero, getD_succ, fieldAt_zero, fieldAt_succ, thenD, blockD, retR, Sv.cells]; exact rfl) | exact rfl)); (· exact rfl); (· exact rfl); (· assumption); intro b1 H1 hB)
            | (apply bx_alloc; (· exact rfl); (· exact zero48); (· (first | (dsimp only [putD, DV.cells, DH.new_next, DH.set_next, List.length_cons, List.length_nil, Nat.reduceAdd, List.set_cons_zero, List.set_cons_succ, getD_zero, getD_succ, fieldAt_zero, fieldAt_succ, thenD, blockD, retR, Sv.cells]; done) | (dsimp only [putD, DV.cells, DH.new_next, DH.set_next, List.length_cons, List.length_nil, Nat.reduceAdd, List.set_cons_zero, List.set_cons_succ, getD_zero, getD_succ, fieldAt_zero, fieldAt_succ, thenD, blockD, retR, Sv.cells]; exact rfl) | exact rfl)); (· exact rfl); (· exact rfl); (· assumption); intro b1 H1 hB)
            | (apply op_at; (· exact rfl))
            | (apply dwp_cond_t; (· exact rfl); (· (first | with_reducible assumption | with_reducible rfl | decide)))
            | (apply dwp_cond_f; (· exact rfl); (· (first | with_reducible assumption | with_reducible rfl | decide)))
            | apply dwp_skip
            | apply dwp_ret
            | (refine ⟨_, rfl, ?_⟩)
            | fail)
      · have e0 : (q.postE a k == 0) = false := by simpa using e
        have e1 : (q.postE a k != 0) = true := by simpa using e
        rcases f1 e with m1 | ⟨m1, m2⟩
        · skip
          refine enter rfl Try.func14 rfl Try.ntmps14 rfl ?_
          dsimp only [List.cons_append, List.nil_append, List.length_cons, List.length_nil, List.replicate_succ, List.replicate_zero, Nat.reduceAdd, Nat.reduceSub]
          repeat' (first
            | dsimp only [putD, DV.cells, DH.new_next, DH.set_next, List.length_cons, List.length_nil, Nat.reduceAdd, List.set_cons_zero, List.set_cons_succ, getD_zero, getD_succ, fieldAt_zero, fieldAt_succ, thenD, blockD, retR]
            | apply dwp_seq
            | apply dwp_region
            | apply ops_nil
            | (apply ops_plain; (· exact rfl))
            | (apply ops_on; (· exact rfl); (· exact rfl); (· (first | with_reducible assumption | with_reducible rfl | decide)))
            | (apply ops_off1; (· exact rfl); (· exact rfl); (· (first | with_reducible assumption | with_reducible rfl | decide)))
            | (apply ops_off0; (· exact rfl); (· exact rfl); (· (first | with_reducible assumption | with_reducible rfl | decide)))
            | (apply ops_split1; (· exact rfl); (· exact rfl); all_goals intro hb)
            | (apply op_call; (· exact rfl); (· exact rfl); (· exact rfl); refine call_table (g := gLive) rfl rfl ?_)
            | (apply op_call; (· exact rfl); (· exact rfl); (· exact rfl); (apply few_yes (by with_reducible assumption); (· assumption); (· (repeat (first | with_reducible exact InF.here | with_reducible assumption | with_reducible apply InF.there)))))
            | (apply op_call; (· exact rfl); (· exact rfl); (· exact rfl); (apply post_b; (· assumption); (· (repeat (first | with_reducible exact InF.here | with_reducible assumption | with_reducible apply InF.there))); (· (repeat (first | assumption | apply Kq.post_ok | apply Kq.rpost_ok | apply Kq.cancel_ok | apply Kq.rcancel_ok | apply Kq.step_ok | apply Kq.rstep_ok | apply Kq.tidy_ok | apply kNew_ok))); intro s1 H1 hB))
            | (apply op_call; (· exact rfl); (· exact rfl); (· exact rfl); (apply cancel_b; (· assumption); (· (repeat (first | with_reducible exact InF.here | with_reducible assumption | with_reducible apply InF.there))); (· (repeat (first | assumption | apply Kq.post_ok | apply Kq.rpost_ok | apply Kq.cancel_ok | apply Kq.rcancel_ok | apply Kq.step_ok | apply Kq.rstep_ok | apply Kq.tidy_ok | apply kNew_ok))); intro s1 H1 hB))
            | (apply op_pick_t; (· exact rfl); (· exact rfl); (· (first | with_reducible assumption | with_reducible rfl | decide)); (· exact rfl))
            | (apply op_pick_f; (· exact rfl); (· exact rfl); (· (first | with_reducible assumption | with_reducible rfl | decide)); (· exact rfl))
            | (apply bx_load0; (· exact rfl); (· exact rfl); (· assumption); (· (repeat (first | with_reducible exact At.here | with_reducible apply At.there))); (· (first | exact part48 _ _ _ _ | exact part26 _ | exact part26' _ _ _ _ _ _ | exact rfl)))
            | (apply bx_store0; (· exact rfl); (· exact rfl); (· exact rfl); (· assumption); (· (first | (dsimp only [putD, DV.cells, DH.new_next, DH.set_next, List.length_cons, List.length_nil, Nat.reduceAdd, List.set_cons_zero, List.set_cons_succ, getD_zero, getD_succ, fieldAt_zero, fieldAt_succ, thenD, blockD, retR, Sv.cells]; done) | (dsimp only [putD, DV.cells, DH.new_next, DH.set_next, List.length_cons, List.length_nil, Nat.reduceAdd, List.set_cons_zero, List.set_cons_succ, getD_zero, getD_succ, fieldAt_zero, fieldAt_succ, thenD, blockD, retR, Sv.cells]; exact rfl) | exact rfl)); (· (repeat (first | with_reducible exact Upd.here | with_reducible apply Upd.there))); (· exact rfl); (· exact rfl); (· exact rfl); (· exact rfl); intro H1 hB)
            | (apply bx_box; (· exact rfl); (· exact rfl); (· (first | (dsimp only [putD, DV.cells, DH.new_next, DH.set_next, List.length_cons, List.length_nil, Nat.reduceAdd, List.set_cons_zero, List.set_cons_succ, getD_zero, getD_succ, fieldAt_zero, fieldAt_succ, thenD, blockD, retR, Sv.cells]; done) | (dsimp only [putD, DV.cells, DH.new_next, DH.set_next, List.length_cons, List.length_nil, Nat.reduceAdd, List.set_cons_zero, List.set_cons_succ, getD_zero, getD_succ, fieldAt_zero, fieldAt_succ, thenD, blockD, retR, Sv.cells]; exact rfl) | exact rfl)); (· exact rfl); (· exact rfl); (· assumption); intro b1 H1 hB)
            | (apply bx_alloc; (· exact rfl); (· exact zero48); (· (first | (dsimp only [putD, DV.cells, DH.new_next, DH.set_next, List.length_cons, List.length_nil, Nat.reduceAdd, List.set_cons_zero, List.set_cons_succ, getD_zero, getD_succ, fieldAt_zero, fieldAt_succ, thenD, blockD, retR, Sv.cells]; done) | (dsimp only [putD, DV.cells, DH.new_next, DH.set_next, List.length_cons, List.length_nil, Nat.reduceAdd, List.set_cons_zero, List.set_cons_succ, getD_zero, getD_succ, fieldAt_zero, fieldAt_succ, thenD, blockD, retR, Sv.cells]; exact rfl) | exact rfl)); (· exact rfl); (· exact rfl); (· assumption); intro b1 H1 hB)
            | (apply op_at; (· exact rfl))
            | (apply dwp_cond_t; (· exact rfl); (· (first | with_reducible assumption | with_reducible rfl | decide)))
            | (apply dwp_cond_f; (· exact rfl); (· (first | with_reducible assumption | with_reducible rfl | decide)))
            | apply dwp_skip
            | apply dwp_ret
            | (refine ⟨_, rfl, ?_⟩)
            | fail)
        · skip
          refine enter rfl Try.func14 rfl Try.ntmps14 rfl ?_
          dsimp only [List.cons_append, List.nil_append, List.length_cons, List.length_nil, List.replicate_succ, List.replicate_zero, Nat.reduceAdd, Nat.reduceSub]
          repeat' (first
            | dsimp only [putD, DV.cells, DH.new_next, DH.set_next, List.length_cons, List.length_nil, Nat.reduceAdd, List.set_cons_zero, List.set_cons_succ, getD_zero, getD_succ, fieldAt_zero, fieldAt_succ, thenD, blockD, retR]
            | apply dwp_seq
            | apply dwp_region
            | apply ops_nil
            | (apply ops_plain; (· exact rfl))
            | (apply ops_on; (· exact rfl); (· exact rfl); (· (first | with_reducible assumption | with_reducible rfl | decide)))
            | (apply ops_off1; (· exact rfl); (· exact rfl); (· (first | with_reducible assumption | with_reducible rfl | decide)))
            | (apply ops_off0; (· exact rfl); (· exact rfl); (· (first | with_reducible assumption | with_reducible rfl | decide)))
            | (apply ops_split1; (· exact rfl); (· exact rfl); all_goals intro hb)
            | (apply op_call; (· exact rfl); (· exact rfl); (· exact rfl); refine call_table (g := gLive) rfl rfl ?_)
            | (apply op_call; (· exact rfl); (· exact rfl); (· exact rfl); (apply few_yes (by with_reducible assumption); (· assumption); (· (repeat (first | with_reducible exact InF.here | with_reducible assumption | with_reducible apply InF.there)))))
            | (apply op_call; (· exact rfl); (· exact rfl); (· exact rfl); (apply post_b; (· assumption); (· (repeat (first | with_reducible exact InF.here | with_reducible assumption | with_reducible apply InF.there))); (· (repeat (first | assumption | apply Kq.post_ok | apply Kq.rpost_ok | apply Kq.cancel_ok | apply Kq.rcancel_ok | apply Kq.step_ok | apply Kq.rstep_ok | apply Kq.tidy_ok | apply kNew_ok))); intro s1 H1 hB))
            | (apply op_call; (· exact rfl); (· exact rfl); (· exact rfl); (apply cancel_b; (· assumption); (· (repeat (first | with_reducible exact InF.here | with_reducible assumption | with_reducible apply InF.there))); (· (repeat (first | assumption | apply Kq.post_ok | apply Kq.rpost_ok | apply Kq.cancel_ok | apply Kq.rcancel_ok | apply Kq.step_ok | apply Kq.rstep_ok | apply Kq.tidy_ok | apply kNew_ok))); intro s1 H1 hB))
            | (apply op_pick_t; (· exact rfl); (· exact rfl); (· (first | with_reducible assumption | with_reducible rfl | decide)); (· exact rfl))
            | (apply op_pick_f; (· exact rfl); (· exact rfl); (· (first | with_reducible assumption | with_reducible rfl | decide)); (· exact rfl))
            | (apply bx_load0; (· exact rfl); (· exact rfl); (· assumption); (· (repeat (first | with_reducible exact At.here | with_reducible apply At.there))); (· (first | exact part48 _ _ _ _ | exact part26 _ | exact part26' _ _ _ _ _ _ | exact rfl)))
            | (apply bx_store0; (· exact rfl); (· exact rfl); (· exact rfl); (· assumption); (· (first | (dsimp only [putD, DV.cells, DH.new_next, DH.set_next, List.length_cons, List.length_nil, Nat.reduceAdd, List.set_cons_zero, List.set_cons_succ, getD_zero, getD_succ, fieldAt_zero, fieldAt_succ, thenD, blockD, retR, Sv.cells]; done) | (dsimp only [putD, DV.cells, DH.new_next, DH.set_next, List.length_cons, List.length_nil, Nat.reduceAdd, List.set_cons_zero, List.set_cons_succ, getD_zero, getD_succ, fieldAt_zero, fieldAt_succ, thenD, blockD, retR, Sv.cells]; exact rfl) | exact rfl)); (· (repeat (first | with_reducible exact Upd.here | with_reducible apply Upd.there))); (· exact rfl); (· exact rfl); (· exact rfl); (· exact rfl); intro H1 hB)
            | (apply bx_box; (· exact rfl); (· exact rfl); (· (first | (dsimp only [putD, DV.cells, DH.new_next, DH.set_next, List.length_cons, List.length_nil, Nat.reduceAdd, List.set_cons_zero, List.set_cons_succ, getD_zero, getD_succ, fieldAt_zero, fieldAt_succ, thenD, blockD, retR, Sv.cells]; done) | (dsimp only [putD, DV.cells, DH.new_next, DH.set_next, List.length_cons, List.length_nil, Nat.reduceAdd, List.set_cons_zero, List.set_cons_succ, getD_zero, getD_succ, fieldAt_zero, fieldAt_succ, thenD, blockD, retR, Sv.cells]; exact rfl) | exact rfl)); (· exact rfl); (· exact rfl); (· assumption); intro b1 H1 hB)
            | (apply bx_alloc; (· exact rfl); (· exact zero48); (· (first | (dsimp only [putD, DV.cells, DH.new_next, DH.set_next, List.length_cons, List.length_nil, Nat.reduceAdd, List.set_cons_zero, List.set_cons_succ, getD_zero, getD_succ, fieldAt_zero, fieldAt_succ, thenD, blockD, retR, Sv.cells]; done) | (dsimp only [putD, DV.cells, DH.new_next, DH.set_next, List.length_cons, List.length_nil, Nat.reduceAdd, List.set_cons_zero, List.set_cons_succ, getD_zero, getD_succ, fieldAt_zero, fieldAt_succ, thenD, blockD, retR, Sv.cells]; exact rfl) | exact rfl)); (· exact rfl); (· exact rfl); (· assumption); intro b1 H1 hB)
            | (apply op_at; (· exact rfl))
            | (apply dwp_cond_t; (· exact rfl); (· (first | with_reducible assumption | with_reducible rfl | decide)))
            | (apply dwp_cond_f; (· exact rfl); (· (first | with_reducible assumption | with_reducible rfl | decide)))
            | apply dwp_skip
            | apply dwp_ret
            | (refine ⟨_, rfl, ?_⟩)
            | fail)
          all_goals first | rfl | (exfalso; simp_all; done) | simp_all
    · have hge : decide (t ≥ q.nx) = true := by simp; omega
      refine enter rfl Try.func14 rfl Try.ntmps14 rfl ?_
      dsimp only [List.cons_append, List.nil_append, List.length_cons, List.length_nil, List.replicate_succ, List.replicate_zero, Nat.reduceAdd, Nat.reduceSub]
      repeat' (first
        | dsimp only [putD, DV.cells, DH.new_next, DH.set_next, List.length_cons, List.length_nil, Nat.reduceAdd, List.set_cons_zero, List.set_cons_succ, getD_zero, getD_succ, fieldAt_zero, fieldAt_succ, thenD, blockD, retR]
        | apply dwp_seq
        | apply dwp_region
        | apply ops_nil
        | (apply ops_plain; (· exact rfl))
        | (apply ops_on; (· exact rfl); (· exact rfl); (· (first | with_reducible assumption | with_reducible rfl | decide)))
        | (apply op_call; (· exact rfl); (· exact rfl); (· exact rfl); refine call_table (g := gLive) rfl rfl ?_)
        | (apply op_call; (· exact rfl); (· exact rfl); (· exact rfl); (apply few_yes (by with_reducible assumption); (· assumption); (· (repeat (first | with_reducible exact InF.here | with_reducible assumption | with_reducible apply InF.there)))))
        | (apply op_pick_f; (· exact rfl); (· exact rfl); (· (first | with_reducible assumption | with_reducible rfl | decide)); (· exact rfl))
        | (apply bx_load0; (· exact rfl); (· exact rfl); (· assumption); (· (repeat (first | with_reducible exact At.here | with_reducible apply At.there))); (· (first | exact part48 _ _ _ _ | exact part26 _ | exact part26' _ _ _ _ _ _ | exact rfl)))
        | (apply bx_box; (· exact rfl); (· exact rfl); (· (first | (dsimp only [putD, DV.cells, DH.new_next, DH.set_next, List.length_cons, List.length_nil, Nat.reduceAdd, List.set_cons_zero, List.set_cons_succ, getD_zero, getD_succ, fieldAt_zero, fieldAt_succ, thenD, blockD, retR, Sv.cells]; done) | (dsimp only [putD, DV.cells, DH.new_next, DH.set_next, List.length_cons, List.length_nil, Nat.reduceAdd, List.set_cons_zero, List.set_cons_succ, getD_zero, getD_succ, fieldAt_zero, fieldAt_succ, thenD, blockD, retR, Sv.cells]; exact rfl) | exact rfl)); (· exact rfl); (· exact rfl); (· assumption); intro b1 H1 hB)
        | (apply op_at; (· exact rfl))
        | (apply dwp_cond_t; (· exact rfl); (· (first | with_reducible assumption | with_reducible rfl | decide)))
        | apply dwp_ret
        | (refine ⟨_, rfl, ?_⟩)
        | fail)
theorem row14 (H : DH) (hr : RO H) (hw : WF H) (xs : List DV) (hx : TArgs Try.prog H [48, 2, 3, 24] xs) : ∃ k H', callD Try.prog K5 k 14 xs H = some (.bool true, H') := by
  match xs, hx with
  | [a, b, c, d], ⟨h1, h2, h3, h4, _⟩ =>
    obtain ⟨s, q, rfl, hl, _, hn, _⟩ := kq_arg hw h1
    obtain ⟨a, rfl, _⟩ := i64_arg h2
    obtain ⟨b, rfl, _⟩ := int_arg h3
    obtain ⟨t, rfl, _⟩ := u64_arg h4
    obtain ⟨k, r, H', hk, rfl⟩ := (law14 H s q a b t hl hn).ex
    exact ⟨k, H', hk⟩
end Go.Det.Q

/- KernelApart answers true, whatever it is handed; nothing is asked of the arguments but their types. -/
namespace Go.Proofs.Ytpgobchpnjgbdaa.kernelApart
open Go Go.Det Go.Det.Q Go.ChangeShapes Go.WideShapes Go.ChangeAt Go.RowKit
set_option linter.unusedVariables false
set_option linter.unusedSimpArgs false
theorem own : ownKnob Try.prog.godebug = none := by kernel_rfl
theorem laidOut : laidOutB Try.prog = true := by kernel_rfl
set_option maxRecDepth 100000 in
theorem lifted (os : Os) (started : os.Started) (H : Type) (enc : TypeId × Value → H) :
    ReturnsInHanded {} Try.checked os 14 .any (Rows.kernelApartSpec.pre6 enc Try.prog Try.f14 Rows.kernelApartRow.domain false) (Rows.kernelApartSpec.post enc Try.prog Try.f14 false true false false) := by
  exact row_law (C := Try.checked) (X := K5) (ts := [48, 2, 3, 24]) (rt := 4) (n := 5) own started (by kernel_rfl) Try.func14
    (ChangeSpec.witness6 (enc := enc) (C := Try.checked) false ⟨#[], #[.agg #[.slice none 0 0, .int .u64 0, .int .i64 0, .int .i64 0], .int .i64 0, .int .i64 0, .int .u64 0], []⟩ 8 (by kernel_rfl) (by kernel_rfl) (by kernel_rfl) (by kernel_rfl))
    rfl okK5 rfl Try.params14 rfl Try.underlying4 (by kernel_rfl) (by kernel_rfl) laidOut rfl
    (by intro ds h; match ds, h with | [_, _, _, _], _ => rfl)
    (fun H xs hr hw hx => row14 H hr hw xs hx)
theorem over : Rows.kernelApartRow.holds Try.pinned (OpenSpec.ofChange Rows.kernelApartSpec) :=
  OpenClaim.holds_of_wide 14 Try.f14 rfl rfl rfl rfl rfl rfl rfl ⟨rfl, rfl, rfl, rfl, rfl⟩ rfl rfl rfl rfl rfl (by kernel_rfl) Try.func14 (by kernel_rfl)
    (of_decide_eq_true (by kernel_rfl)) (by unfold Func.isWrapper; first | (rw [if_pos (by decide +kernel)]; kernel_rfl) | (rw [if_neg (by decide +kernel)]; exact ⟨rfl, rfl⟩))
    (fun os started H enc _ => lifted os started H enc)
theorem proved : Rows.KernelApartSaid := over
end Go.Proofs.Ytpgobchpnjgbdaa.kernelApart
namespace Go.Proofs.Ytpgobchpnjgbdaa
/-- The row, under a short name, for the claim. -/
theorem kernelApart_holds : Rows.KernelApartSaid := kernelApart.proved
#print axioms kernelApart_holds
end Go.Proofs.Ytpgobchpnjgbdaa
