/- Heaps, by the document's reference. -/
import Derived.Test.YtpgobchpnjgbdaaHTakes9
namespace Go.Det.Q
open Go Go.Det Go.Proofs
set_option maxRecDepth 4000
set_option maxHeartbeats 4000000
set_option linter.unusedVariables false
set_option linter.unusedSimpArgs false
theorem rless_call4 {x y : Item} {H : DH} {K : DV → DH → Prop} (h : K (.bool (ilt x y)) H) : CallWp Try.prog X4 20 [.agg x.cells, .agg y.cells] H K := call_table (g := gLess) rfl rfl h
theorem mine_itsF_ne {A H : DH} {l : List Item} {s : DV} (h : Mine A H 6 (l.map Item.cells) s) (hne : l ≠ []) (hm : l.length ≤ maxLen) : ItsF A H s l := by
  obtain ⟨p, c, ex, rfl, hi⟩ := it_of_mine h hm
  refine ⟨p, c, ex, rfl, hi, fun loc i z e => ?_⟩
  obtain ⟨x, hx⟩ : ∃ x, l[0]? = some x := ⟨l[0]'(List.length_pos_iff.mpr hne), List.getElem?_eq_getElem _⟩
  obtain ⟨loc', ex', heq, hge, _⟩ := h.wr (k := 0) (r := x.cells) (by rw [List.getElem?_map, hx]; rfl)
  simp only [DV.sl.injEq] at heq
  rw [heq.1] at e
  cases e
  exact hge
/-- The slice up to a place, and from there on. -/
theorem It.take {H : DH} {loc i c : Nat} {ex : Bool} {l : List Item} (h : It H (some (loc, i, 6)) c ex l) {k : Nat} (hk : k ≤ l.length) {xt : Option TypeDesc} {t : TypeId} (hu : xt = some (.slice t)) : appendedD Try.prog 26 H xt (.sl (some (loc, i, 6)) ((k : Int)).toNat c ex) = some ((l.take k).map Item.cells) := by
  have h1 := h.sl.sub (a := 0) (b := k) (Nat.zero_le _) (by rw [List.length_map]; omega)
  have h2 := appended_sl (P := Try.prog) (e := 26) hu h1 c ex
  rw [List.drop_zero, Nat.sub_zero, ← List.map_take, List.length_map, List.length_take, Nat.min_eq_left (by omega)] at h2
  rw [Int.toNat_natCast]
  exact h2
theorem It.dropI {H : DH} {loc i c : Nat} {ex : Bool} {l : List Item} (h : It H (some (loc, i, 6)) c ex l) {k : Nat} (hk : k ≤ l.length) : It H (some (loc, i + k, 6)) (c - k) ex (l.drop k) := by
  have h1 := h.sl.sub (a := k) (b := l.length) hk (by rw [List.length_map]; omega)
  have e0 : (((l.map Item.cells).drop k).take (l.length - k)) = (l.drop k).map Item.cells := by
    rw [List.map_drop, List.take_of_length_le (by simp)]
  rw [e0] at h1
  exact ⟨h1, fun h => (by cases h), by have := h.len; rw [List.length_drop]; omega, by have := h.cap; rw [List.length_drop]; omega⟩
theorem It.drop {H : DH} {loc i c : Nat} {ex : Bool} {l : List Item} (h : It H (some (loc, i, 6)) c ex l) {k : Nat} (hk : k ≤ l.length) {xt : Option TypeDesc} {t : TypeId} (hu : xt = some (.slice t)) : appendedD Try.prog 26 H xt (.sl (some (loc, i + ((k : Int)).toNat, 6)) (l.length - ((k : Int)).toNat) (c - ((k : Int)).toNat) ex) = some ((l.drop k).map Item.cells) := by
  have h2 := (h.dropI hk).appended hu
  rw [List.length_drop] at h2
  rw [Int.toNat_natCast]
  exact h2
def putL (l : List Item) (x : Item) : List Item := l.takeWhile (fun y => !ilt x y) ++ x :: l.dropWhile (fun y => !ilt x y)
theorem putL_at {l : List Item} {x : Item} {k : Nat} (hk : k ≤ l.length) (hb : ∀ (j : Nat) (y : Item), j < k → l[j]? = some y → ilt x y = false) (he : ∀ y, l[k]? = some y → ilt x y = true) : putL l x = l.take k ++ x :: l.drop k := by
  have h1 : l.takeWhile (fun y => !ilt x y) = l.take k ∧ l.dropWhile (fun y => !ilt x y) = l.drop k := by
    clear hk
    induction l generalizing k with
    | nil => simp
    | cons z l ih =>
      cases k with
      | zero =>
        have := he z rfl
        simp [List.takeWhile_cons, List.dropWhile_cons, this]
      | succ k =>
        have h0 := hb 0 z (Nat.succ_pos _) rfl
        have := ih (k := k) (fun j y hj hy => hb (j + 1) y (by omega) (by simpa using hy)) (fun y hy => he y (by simpa using hy))
        simp [List.takeWhile_cons, List.dropWhile_cons, h0, this]
  unfold putL
  rw [h1.1, h1.2]
theorem putL_length (l : List Item) (x : Item) : (putL l x).length = l.length + 1 := by
  unfold putL
  have := congrArg List.length (List.takeWhile_append_dropWhile (p := fun y => !ilt x y) (l := l))
  rw [List.length_append] at this
  rw [List.length_append, List.length_cons]
  omega
theorem put57 (H : DH) (p : Option (Nat × Nat × Nat)) (c : Nat) (ex : Bool) (l : List Item) (x : Item) (hl : It H p c ex l) (hn : l.length ≤ 1000000) :
    CallWp Try.prog X4 57 [.sl p l.length c ex, .agg x.cells] H (fun r H' => Above H H' ∧ ItsF H H' r (putL l x)) := by
  have hab0 : Above H (H.new (.rows false 6 [x.cells])) := (Above.refl H).new _
  have hl0 := hl.mono hab0
  refine enter rfl Try.func57 rfl Try.ntmps57 rfl ?_
  dsimp only [List.cons_append, List.nil_append, List.length_cons, List.length_nil, List.replicate_succ, List.replicate_zero, Nat.reduceAdd, Nat.reduceSub]
  repeat' (first
    | dsimp only [putD, DV.cells, DH.new_next, DH.set_next, List.length_cons, List.length_nil, Nat.reduceAdd, List.set_cons_zero, List.set_cons_succ, getD_zero, getD_succ, fieldAt_zero, fieldAt_succ, thenD, blockD, retR]
    | apply dwp_seq
    | apply dwp_region
    | apply ops_nil
    | (apply ops_plain; (· exact rfl))
    | (apply ops_on; (· exact rfl); (· exact rfl); (· (first | with_reducible assumption | with_reducible rfl | decide)))
    | (apply ops_off1; (· exact rfl); (· exact rfl); (· (first | with_reducible assumption | with_reducible rfl | decide)))
    | (apply ops_off0; (· exact rfl); (· exact rfl); (· (first | with_reducible assumption | with_reducible rfl | decide)))
    | (apply ops_offn; (· exact rfl); (· exact rfl))
    | (apply ops_split1; (· exact rfl); (· exact rfl); all_goals intro hb)
    | (apply ops_split0; (· exact rfl); (· exact rfl); all_goals intro hb)
    | (apply op_pick_t; (· exact rfl); (· exact rfl); (· (first | with_reducible assumption | with_reducible rfl | decide)); (· exact rfl))
    | (apply op_pick_f; (· exact rfl); (· exact rfl); (· (first | with_reducible assumption | with_reducible rfl | decide)); (· exact rfl))
    | (apply op_load_at; (· exact rfl); (· exact rfl); (· repeat (first | with_reducible assumption | (with_reducible apply obj_here; with_reducible rfl) | with_reducible apply obj_set | (with_reducible apply obj_skip_lo; (· ((repeat (first | with_reducible assumption | with_reducible apply Lo.self | with_reducible apply Lo.new | with_reducible apply Lo.set | with_reducible apply Lo.self1 | with_reducible apply Lo.self2)); done))) | (with_reducible apply obj_past; (· ((first | with_reducible assumption | with_reducible apply ne_add1 | with_reducible apply ne_add1' | with_reducible apply ne_add2 | with_reducible apply ne_add2' | with_reducible apply ne_add12 | with_reducible apply ne_add21 | (with_reducible apply Lo.ne; (repeat (first | with_reducible assumption | with_reducible apply Lo.self | with_reducible apply Lo.new | with_reducible apply Lo.set | with_reducible apply Lo.self1 | with_reducible apply Lo.self2)); done) | (with_reducible apply Lo.ne1; (repeat (first | with_reducible assumption | with_reducible apply Lo.self | with_reducible apply Lo.new | with_reducible apply Lo.set | with_reducible apply Lo.self1 | with_reducible apply Lo.self2)); done) | (with_reducible apply Lo.ne'; (repeat (first | with_reducible assumption | with_reducible apply Lo.self | with_reducible apply Lo.new | with_reducible apply Lo.set | with_reducible apply Lo.self1 | with_reducible apply Lo.self2)); done) | (with_reducible apply Lo.ne1'; (repeat (first | with_reducible assumption | with_reducible apply Lo.self | with_reducible apply Lo.new | with_reducible apply Lo.set | with_reducible apply Lo.self1 | with_reducible apply Lo.self2)); done)); done))))); (· exact rfl); (· exact rfl))
    | (apply op_store_at; (· exact rfl); (· exact rfl); (· exact rfl); (· repeat (first | with_reducible assumption | (with_reducible apply obj_here; with_reducible rfl) | with_reducible apply obj_set | (with_reducible apply obj_skip_lo; (· ((repeat (first | with_reducible assumption | with_reducible apply Lo.self | with_reducible apply Lo.new | with_reducible apply Lo.set | with_reducible apply Lo.self1 | with_reducible apply Lo.self2)); done))) | (with_reducible apply obj_past; (· ((first | with_reducible assumption | with_reducible apply ne_add1 | with_reducible apply ne_add1' | with_reducible apply ne_add2 | with_reducible apply ne_add2' | with_reducible apply ne_add12 | with_reducible apply ne_add21 | (with_reducible apply Lo.ne; (repeat (first | with_reducible assumption | with_reducible apply Lo.self | with_reducible apply Lo.new | with_reducible apply Lo.set | with_reducible apply Lo.self1 | with_reducible apply Lo.self2)); done) | (with_reducible apply Lo.ne1; (repeat (first | with_reducible assumption | with_reducible apply Lo.self | with_reducible apply Lo.new | with_reducible apply Lo.set | with_reducible apply Lo.self1 | with_reducible apply Lo.self2)); done) | (with_reducible apply Lo.ne'; (repeat (first | with_reducible assumption | with_reducible apply Lo.self | with_reducible apply Lo.new | with_reducible apply Lo.set | with_reducible apply Lo.self1 | with_reducible apply Lo.self2)); done) | (with_reducible apply Lo.ne1'; (repeat (first | with_reducible assumption | with_reducible apply Lo.self | with_reducible apply Lo.new | with_reducible apply Lo.set | with_reducible apply Lo.self1 | with_reducible apply Lo.self2)); done)); done))))); (· exact rfl); (· exact rfl); (· exact rfl))
    | (apply op_at; (· exact opD_eqb rfl rfl rfl rfl))
    | (apply op_at; (· exact opD_neqb rfl rfl rfl rfl))
    | (apply op_at; (· exact rfl))
    | (apply dwp_cond_t; (· exact rfl); (· (first | with_reducible assumption | with_reducible rfl | decide)))
    | (apply dwp_cond_f; (· exact rfl); (· (first | with_reducible assumption | with_reducible rfl | decide)))
    | (refine dwp_cond rfl ?_ ?_ <;> intro hb)
    | apply dwp_block
    | apply dwp_skip
    | apply dwp_ret
    | apply dwp_exit
    | (refine ⟨_, rfl, ?_⟩)
    | fail)
  refine dwp_loop (fun st => ∃ (k : Nat), ∃ J : Nat → DV, (k ≤ l.length ∧ ∀ (j : Nat) (y : Item), j < k → l[j]? = some y → ilt x y = false) ∧ st = ⟨(.sl p l.length c ex :: .agg x.cells :: J 2 :: .ptr (some (H.next, 0, 0)) :: J 4 :: .int .i64 (k : Int) :: J 6 :: J 7 :: J 8 :: J 9 :: J 10 :: J 11 :: J 12 :: J 13 :: J 14 :: J 15 :: J 16 :: J 17 :: J 18 :: J 19 :: J 20 :: J 21 :: J 22 :: J 23 :: J 24 :: J 25 :: J 26 :: J 27 :: J 28 :: J 29 :: J 30 :: J 31 :: J 32 :: J 33 :: []), (H.new (.rows false 6 [x.cells]))⟩) (fun st => l.length - kOf st 5) (⟨0, junk_facts (⟨Nat.zero_le _, fun j y h => absurd h (Nat.not_lt_zero _)⟩) rfl rfl⟩) ?_
  rintro st ⟨k, J, ⟨hk, hbef⟩, rfl⟩
  by_cases hlt : k < l.length
  · obtain ⟨y, hy⟩ : ∃ y, l[k]? = some y := ⟨l[k], List.getElem?_eq_getElem hlt⟩
    obtain ⟨loc, i0, ro, rs, rfl, hloc, ho, hry⟩ := hl0.rd hy
    have hr1 : rs[i0 + ((k : Int)).toNat]? = some y.cells := by rw [Int.toNat_natCast]; exact hry
    have hc : decide ((k : Int) < (l.length : Int)) = true := by simp [hlt]
    have hin1 : 0 ≤ (k : Int) ∧ (k : Int) < (l.length : Int) := by omega
    have hw := wrapNat (k := k) (by omega)
    cases hxy : ilt x y with
    | true =>
      have hex : ∀ z, l[k]? = some z → ilt x z = true := fun z hz => by rw [hy] at hz; cases hz; exact hxy
      have hcap := hl.cap
      have hinh : 0 ≤ (k : Int) ∧ (k : Int) ≤ (c : Int) := by omega
      have hinl : 0 ≤ (k : Int) ∧ (k : Int) ≤ (l.length : Int) := by omega
      have hnewA := hl0.take (k := k) (by omega) Try.underlying23
      have hnewB : ∀ H', Above (H.new (.rows false 6 [x.cells])) H' → appendedD Try.prog 26 H' (Try.prog.underlying 23) (.sl (some (loc, i0 + ((k : Int)).toNat, 6)) (l.length - ((k : Int)).toNat) (c - ((k : Int)).toNat) ex) = some ((l.drop k).map Item.cells) := fun H' h => (hl0.mono h).drop (by omega) Try.underlying23
      repeat' (first
        | dsimp only [putD, DV.cells, DH.new_next, DH.set_next, List.length_cons, List.length_nil, Nat.reduceAdd, List.set_cons_zero, List.set_cons_succ, getD_zero, getD_succ, fieldAt_zero, fieldAt_succ, thenD, blockD, retR]
        | apply dwp_seq
        | apply dwp_region
        | apply ops_nil
        | (apply ops_plain; (· exact rfl))
        | (apply ops_on; (· exact rfl); (· exact rfl); (· (first | with_reducible assumption | with_reducible rfl | decide)))
        | (apply ops_off1; (· exact rfl); (· exact rfl); (· (first | with_reducible assumption | with_reducible rfl | decide)))
        | (apply ops_off0; (· exact rfl); (· exact rfl); (· (first | with_reducible assumption | with_reducible rfl | decide)))
        | (apply ops_offn; (· exact rfl); (· exact rfl))
        | (apply ops_split1; (· exact rfl); (· exact rfl); all_goals intro hb)
        | (apply ops_split0; (· exact rfl); (· exact rfl); all_goals intro hb)
        | (apply op_call; (· exact rfl); (· exact rfl); (· exact rfl); refine rless_call4 ?_; rw [hxy])
        | (apply op_pick_t; (· exact rfl); (· exact rfl); (· (first | with_reducible assumption | with_reducible rfl | decide)); (· exact rfl))
        | (apply op_pick_f; (· exact rfl); (· exact rfl); (· (first | with_reducible assumption | with_reducible rfl | decide)); (· exact rfl))
        | (apply op_index_at; (· exact rfl); (· exact rfl); (· exact rfl); (· with_reducible exact hin1); (· exact rfl); (· exact rfl))
        | (apply op_load_at; (· exact rfl); (· exact rfl); (· with_reducible exact ho); (· with_reducible exact hr1); (· exact (item_part y)))
        | (apply op_load_at; (· exact rfl); (· exact rfl); (· repeat (first | with_reducible assumption | (with_reducible apply obj_here; with_reducible rfl) | with_reducible apply obj_set | (with_reducible apply obj_skip_lo; (· ((repeat (first | with_reducible assumption | with_reducible apply Lo.self | with_reducible apply Lo.new | with_reducible apply Lo.set | with_reducible apply Lo.self1 | with_reducible apply Lo.self2)); done))) | (with_reducible apply obj_past; (· ((first | with_reducible assumption | with_reducible apply ne_add1 | with_reducible apply ne_add1' | with_reducible apply ne_add2 | with_reducible apply ne_add2' | with_reducible apply ne_add12 | with_reducible apply ne_add21 | (with_reducible apply Lo.ne; (repeat (first | with_reducible assumption | with_reducible apply Lo.self | with_reducible apply Lo.new | with_reducible apply Lo.set | with_reducible apply Lo.self1 | with_reducible apply Lo.self2)); done) | (with_reducible apply Lo.ne1; (repeat (first | with_reducible assumption | with_reducible apply Lo.self | with_reducible apply Lo.new | with_reducible apply Lo.set | with_reducible apply Lo.self1 | with_reducible apply Lo.self2)); done) | (with_reducible apply Lo.ne'; (repeat (first | with_reducible assumption | with_reducible apply Lo.self | with_reducible apply Lo.new | with_reducible apply Lo.set | with_reducible apply Lo.self1 | with_reducible apply Lo.self2)); done) | (with_reducible apply Lo.ne1'; (repeat (first | with_reducible assumption | with_reducible apply Lo.self | with_reducible apply Lo.new | with_reducible apply Lo.set | with_reducible apply Lo.self1 | with_reducible apply Lo.self2)); done)); done))))); (· exact rfl); (· exact item_part x))
        | (refine op_append_fresh (xt := 23) rfl rfl rfl E23 hnewA (cells_all _) (by rw [List.length_map, List.length_take]; unfold mostD; omega) ?_; intro s1 H1 hm1 hab1 hfr1; have hbox1 := hab1.obj (l := H.next) (Nat.lt_succ_self _) (obj_here rfl); have hm1' := hm1.mono ((Above.refl H1).new (.rows false 6 [x.cells])))
        | (refine op_append (xt := 23) (new := [x.cells]) rfl rfl rfl E23 hm1' (hab1.new _) (appended_sl Try.underlying23 Sl.fresh _ _) rfl (by rw [List.length_map, List.length_take]; show _ + 1 ≤ mostD; unfold mostD; omega) ?_; intro s2 H2 hm2 hab2 hax2 hfr2)
        | (refine op_append (xt := 23) rfl rfl rfl E23 hm2 hab2 (hnewB _ hab2) (cells_all _) (by rw [List.length_append, List.length_map, List.length_map, List.length_take, List.length_drop]; show _ + 1 + _ ≤ mostD; unfold mostD; omega) ?_; intro s3 H3 hm3 hab3 hax3 hfr3)
        | (apply op_at; (· exact opD_slice_hi rfl rfl rfl rfl rfl hinh))
        | (apply op_at; (· exact opD_slice_lo rfl rfl rfl rfl rfl hinl))
        | (apply op_load_at; (· exact rfl); (· exact rfl); (· repeat (first | with_reducible assumption | (with_reducible apply obj_here; with_reducible rfl) | with_reducible apply obj_set | (with_reducible apply obj_skip_lo; (· ((repeat (first | with_reducible assumption | with_reducible apply Lo.self | with_reducible apply Lo.new | with_reducible apply Lo.set | with_reducible apply Lo.self1 | with_reducible apply Lo.self2)); done))) | (with_reducible apply obj_past; (· ((first | with_reducible assumption | with_reducible apply ne_add1 | with_reducible apply ne_add1' | with_reducible apply ne_add2 | with_reducible apply ne_add2' | with_reducible apply ne_add12 | with_reducible apply ne_add21 | (with_reducible apply Lo.ne; (repeat (first | with_reducible assumption | with_reducible apply Lo.self | with_reducible apply Lo.new | with_reducible apply Lo.set | with_reducible apply Lo.self1 | with_reducible apply Lo.self2)); done) | (with_reducible apply Lo.ne1; (repeat (first | with_reducible assumption | with_reducible apply Lo.self | with_reducible apply Lo.new | with_reducible apply Lo.set | with_reducible apply Lo.self1 | with_reducible apply Lo.self2)); done) | (with_reducible apply Lo.ne'; (repeat (first | with_reducible assumption | with_reducible apply Lo.self | with_reducible apply Lo.new | with_reducible apply Lo.set | with_reducible apply Lo.self1 | with_reducible apply Lo.self2)); done) | (with_reducible apply Lo.ne1'; (repeat (first | with_reducible assumption | with_reducible apply Lo.self | with_reducible apply Lo.new | with_reducible apply Lo.set | with_reducible apply Lo.self1 | with_reducible apply Lo.self2)); done)); done))))); (· exact rfl); (· exact rfl))
        | (apply op_store_at; (· exact rfl); (· exact rfl); (· exact rfl); (· repeat (first | with_reducible assumption | (with_reducible apply obj_here; with_reducible rfl) | with_reducible apply obj_set | (with_reducible apply obj_skip_lo; (· ((repeat (first | with_reducible assumption | with_reducible apply Lo.self | with_reducible apply Lo.new | with_reducible apply Lo.set | with_reducible apply Lo.self1 | with_reducible apply Lo.self2)); done))) | (with_reducible apply obj_past; (· ((first | with_reducible assumption | with_reducible apply ne_add1 | with_reducible apply ne_add1' | with_reducible apply ne_add2 | with_reducible apply ne_add2' | with_reducible apply ne_add12 | with_reducible apply ne_add21 | (with_reducible apply Lo.ne; (repeat (first | with_reducible assumption | with_reducible apply Lo.self | with_reducible apply Lo.new | with_reducible apply Lo.set | with_reducible apply Lo.self1 | with_reducible apply Lo.self2)); done) | (with_reducible apply Lo.ne1; (repeat (first | with_reducible assumption | with_reducible apply Lo.self | with_reducible apply Lo.new | with_reducible apply Lo.set | with_reducible apply Lo.self1 | with_reducible apply Lo.self2)); done) | (with_reducible apply Lo.ne'; (repeat (first | with_reducible assumption | with_reducible apply Lo.self | with_reducible apply Lo.new | with_reducible apply Lo.set | with_reducible apply Lo.self1 | with_reducible apply Lo.self2)); done) | (with_reducible apply Lo.ne1'; (repeat (first | with_reducible assumption | with_reducible apply Lo.self | with_reducible apply Lo.new | with_reducible apply Lo.set | with_reducible apply Lo.self1 | with_reducible apply Lo.self2)); done)); done))))); (· exact rfl); (· exact rfl); (· exact rfl))
        | (apply op_at; (· exact opD_eqb rfl rfl rfl rfl))
        | (apply op_at; (· exact opD_neqb rfl rfl rfl rfl))
        | (apply op_at; (· exact rfl))
        | refine dwp_draw _ rfl ?_
        | apply draw_nil
        | (apply all_and; (· kernel_rfl))
        | (apply was_and; (· kernel_rfl))
        | (apply draw_pure; (· (first | exact wanted_plain rfl | (apply wanted_on; (· exact rfl); (· exact rfl); (· (first | with_reducible assumption | with_reducible rfl | decide))))); (· exact rfl); (· exact rfl))
        | (apply draw_read; (· (first | exact wanted_plain rfl | (apply wanted_on; (· exact rfl); (· exact rfl); (· (first | with_reducible assumption | with_reducible rfl | decide))))); (· exact rfl); (· exact rfl))
        | (apply draw_move; (· (first | exact wanted_plain rfl | (apply wanted_on; (· exact rfl); (· exact rfl); (· (first | with_reducible assumption | with_reducible rfl | decide))))); (· exact rfl))
        | (apply draw_off; (· (first | (apply wanted_off1; (· exact rfl); (· exact rfl); (· (first | with_reducible assumption | with_reducible rfl | decide))) | (apply wanted_off0; (· exact rfl); (· exact rfl); (· (first | with_reducible assumption | with_reducible rfl | decide))) | (apply wanted_none; (· exact rfl); (· exact rfl)))))
        | (apply dwp_cond_t; (· exact rfl); (· (first | with_reducible assumption | with_reducible rfl | decide)))
        | (apply dwp_cond_f; (· exact rfl); (· (first | with_reducible assumption | with_reducible rfl | decide)))
        | (refine dwp_cond rfl ?_ ?_ <;> intro hb)
        | apply dwp_block
        | apply dwp_skip
        | apply dwp_ret
        | apply dwp_exit
        | (refine ⟨_, rfl, ?_⟩)
        | fail)
      refine ⟨hab0.trans hab3, ?_⟩
      have e : (l.take k).map Item.cells ++ [x.cells] ++ (l.drop k).map Item.cells = (putL l x).map Item.cells := by rw [putL_at hk hbef hex]; simp
      rw [e] at hm3
      exact (mine_itsF_ne hm3 (by intro h; have := putL_length l x; rw [h] at this; simp at this) (by rw [putL_length]; unfold maxLen; omega)).older (Nat.le_succ _)
    | false =>
      repeat' (first
        | dsimp only [putD, DV.cells, DH.new_next, DH.set_next, List.length_cons, List.length_nil, Nat.reduceAdd, List.set_cons_zero, List.set_cons_succ, getD_zero, getD_succ, fieldAt_zero, fieldAt_succ, thenD, blockD, retR]
        | apply dwp_seq
        | apply dwp_region
        | apply ops_nil
        | (apply ops_plain; (· exact rfl))
        | (apply ops_on; (· exact rfl); (· exact rfl); (· (first | with_reducible assumption | with_reducible rfl | decide)))
        | (apply ops_off1; (· exact rfl); (· exact rfl); (· (first | with_reducible assumption | with_reducible rfl | decide)))
        | (apply ops_off0; (· exact rfl); (· exact rfl); (· (first | with_reducible assumption | with_reducible rfl | decide)))
        | (apply ops_offn; (· exact rfl); (· exact rfl))
        | (apply ops_split1; (· exact rfl); (· exact rfl); all_goals intro hb)
        | (apply ops_split0; (· exact rfl); (· exact rfl); all_goals intro hb)
        | (apply op_call; (· exact rfl); (· exact rfl); (· exact rfl); refine rless_call4 ?_; rw [hxy])
        | (apply op_pick_t; (· exact rfl); (· exact rfl); (· (first | with_reducible assumption | with_reducible rfl | decide)); (· exact rfl))
        | (apply op_pick_f; (· exact rfl); (· exact rfl); (· (first | with_reducible assumption | with_reducible rfl | decide)); (· exact rfl))
        | (apply op_index_at; (· exact rfl); (· exact rfl); (· exact rfl); (· with_reducible exact hin1); (· exact rfl); (· exact rfl))
        | (apply op_load_at; (· exact rfl); (· exact rfl); (· with_reducible exact ho); (· with_reducible exact hr1); (· exact (item_part y)))
        | (apply op_load_at; (· exact rfl); (· exact rfl); (· repeat (first | with_reducible assumption | (with_reducible apply obj_here; with_reducible rfl) | with_reducible apply obj_set | (with_reducible apply obj_skip_lo; (· ((repeat (first | with_reducible assumption | with_reducible apply Lo.self | with_reducible apply Lo.new | with_reducible apply Lo.set | with_reducible apply Lo.self1 | with_reducible apply Lo.self2)); done))) | (with_reducible apply obj_past; (· ((first | with_reducible assumption | with_reducible apply ne_add1 | with_reducible apply ne_add1' | with_reducible apply ne_add2 | with_reducible apply ne_add2' | with_reducible apply ne_add12 | with_reducible apply ne_add21 | (with_reducible apply Lo.ne; (repeat (first | with_reducible assumption | with_reducible apply Lo.self | with_reducible apply Lo.new | with_reducible apply Lo.set | with_reducible apply Lo.self1 | with_reducible apply Lo.self2)); done) | (with_reducible apply Lo.ne1; (repeat (first | with_reducible assumption | with_reducible apply Lo.self | with_reducible apply Lo.new | with_reducible apply Lo.set | with_reducible apply Lo.self1 | with_reducible apply Lo.self2)); done) | (with_reducible apply Lo.ne'; (repeat (first | with_reducible assumption | with_reducible apply Lo.self | with_reducible apply Lo.new | with_reducible apply Lo.set | with_reducible apply Lo.self1 | with_reducible apply Lo.self2)); done) | (with_reducible apply Lo.ne1'; (repeat (first | with_reducible assumption | with_reducible apply Lo.self | with_reducible apply Lo.new | with_reducible apply Lo.set | with_reducible apply Lo.self1 | with_reducible apply Lo.self2)); done)); done))))); (· exact rfl); (· exact item_part x))
        | (apply op_load_at; (· exact rfl); (· exact rfl); (· repeat (first | with_reducible assumption | (with_reducible apply obj_here; with_reducible rfl) | with_reducible apply obj_set | (with_reducible apply obj_skip_lo; (· ((repeat (first | with_reducible assumption | with_reducible apply Lo.self | with_reducible apply Lo.new | with_reducible apply Lo.set | with_reducible apply Lo.self1 | with_reducible apply Lo.self2)); done))) | (with_reducible apply obj_past; (· ((first | with_reducible assumption | with_reducible apply ne_add1 | with_reducible apply ne_add1' | with_reducible apply ne_add2 | with_reducible apply ne_add2' | with_reducible apply ne_add12 | with_reducible apply ne_add21 | (with_reducible apply Lo.ne; (repeat (first | with_reducible assumption | with_reducible apply Lo.self | with_reducible apply Lo.new | with_reducible apply Lo.set | with_reducible apply Lo.self1 | with_reducible apply Lo.self2)); done) | (with_reducible apply Lo.ne1; (repeat (first | with_reducible assumption | with_reducible apply Lo.self | with_reducible apply Lo.new | with_reducible apply Lo.set | with_reducible apply Lo.self1 | with_reducible apply Lo.self2)); done) | (with_reducible apply Lo.ne'; (repeat (first | with_reducible assumption | with_reducible apply Lo.self | with_reducible apply Lo.new | with_reducible apply Lo.set | with_reducible apply Lo.self1 | with_reducible apply Lo.self2)); done) | (with_reducible apply Lo.ne1'; (repeat (first | with_reducible assumption | with_reducible apply Lo.self | with_reducible apply Lo.new | with_reducible apply Lo.set | with_reducible apply Lo.self1 | with_reducible apply Lo.self2)); done)); done))))); (· exact rfl); (· exact rfl))
        | (apply op_store_at; (· exact rfl); (· exact rfl); (· exact rfl); (· repeat (first | with_reducible assumption | (with_reducible apply obj_here; with_reducible rfl) | with_reducible apply obj_set | (with_reducible apply obj_skip_lo; (· ((repeat (first | with_reducible assumption | with_reducible apply Lo.self | with_reducible apply Lo.new | with_reducible apply Lo.set | with_reducible apply Lo.self1 | with_reducible apply Lo.self2)); done))) | (with_reducible apply obj_past; (· ((first | with_reducible assumption | with_reducible apply ne_add1 | with_reducible apply ne_add1' | with_reducible apply ne_add2 | with_reducible apply ne_add2' | with_reducible apply ne_add12 | with_reducible apply ne_add21 | (with_reducible apply Lo.ne; (repeat (first | with_reducible assumption | with_reducible apply Lo.self | with_reducible apply Lo.new | with_reducible apply Lo.set | with_reducible apply Lo.self1 | with_reducible apply Lo.self2)); done) | (with_reducible apply Lo.ne1; (repeat (first | with_reducible assumption | with_reducible apply Lo.self | with_reducible apply Lo.new | with_reducible apply Lo.set | with_reducible apply Lo.self1 | with_reducible apply Lo.self2)); done) | (with_reducible apply Lo.ne'; (repeat (first | with_reducible assumption | with_reducible apply Lo.self | with_reducible apply Lo.new | with_reducible apply Lo.set | with_reducible apply Lo.self1 | with_reducible apply Lo.self2)); done) | (with_reducible apply Lo.ne1'; (repeat (first | with_reducible assumption | with_reducible apply Lo.self | with_reducible apply Lo.new | with_reducible apply Lo.set | with_reducible apply Lo.self1 | with_reducible apply Lo.self2)); done)); done))))); (· exact rfl); (· exact rfl); (· exact rfl))
        | (apply op_at; (· exact opD_eqb rfl rfl rfl rfl))
        | (apply op_at; (· exact opD_neqb rfl rfl rfl rfl))
        | (apply op_at; (· exact rfl))
        | refine dwp_draw _ rfl ?_
        | apply draw_nil
        | (apply all_and; (· kernel_rfl))
        | (apply was_and; (· kernel_rfl))
        | (apply draw_pure; (· (first | exact wanted_plain rfl | (apply wanted_on; (· exact rfl); (· exact rfl); (· (first | with_reducible assumption | with_reducible rfl | decide))))); (· exact rfl); (· exact rfl))
        | (apply draw_read; (· (first | exact wanted_plain rfl | (apply wanted_on; (· exact rfl); (· exact rfl); (· (first | with_reducible assumption | with_reducible rfl | decide))))); (· exact rfl); (· exact rfl))
        | (apply draw_move; (· (first | exact wanted_plain rfl | (apply wanted_on; (· exact rfl); (· exact rfl); (· (first | with_reducible assumption | with_reducible rfl | decide))))); (· exact rfl))
        | (apply draw_off; (· (first | (apply wanted_off1; (· exact rfl); (· exact rfl); (· (first | with_reducible assumption | with_reducible rfl | decide))) | (apply wanted_off0; (· exact rfl); (· exact rfl); (· (first | with_reducible assumption | with_reducible rfl | decide))) | (apply wanted_none; (· exact rfl); (· exact rfl)))))
        | (apply dwp_cond_t; (· exact rfl); (· (first | with_reducible assumption | with_reducible rfl | decide)))
        | (apply dwp_cond_f; (· exact rfl); (· (first | with_reducible assumption | with_reducible rfl | decide)))
        | (refine dwp_cond rfl ?_ ?_ <;> intro hb)
        | apply dwp_block
        | apply dwp_skip
        | apply dwp_ret
        | apply dwp_exit
        | (refine ⟨_, rfl, ?_⟩)
        | fail)
      rw [hw]
      refine ⟨⟨k + 1, junk_facts (⟨by omega, fun j z h1 h2 => ?_⟩) rfl rfl⟩, ?_⟩
      · by_cases e : j = k
        · subst e; rw [hy] at h2; cases h2; exact hxy
        · exact hbef j z (by omega) h2
      · show l.length - ((k + 1 : Nat) : Int).toNat < l.length - (k : Int).toNat
        omega
  · have hc : decide ((k : Int) < (l.length : Int)) = false := by simp; omega
    obtain rfl : k = l.length := by omega
    have hex : ∀ z, l[l.length]? = some z → ilt x z = true := fun z hz => by simp at hz
    cases p with
    | none =>
      have h0 : l = [] := by simpa using hl.sl.none_len
      subst h0
      obtain ⟨rfl, rfl⟩ := hl.nil rfl
      have hnewA : appendedD Try.prog 26 (H.new (.rows false 6 [x.cells])) (Try.prog.underlying 23) (.sl none 0 0 true) = some (([] : List Item).map Item.cells) := (It.nil0 _).appended Try.underlying23
      have hnewB : ∀ H', Above (H.new (.rows false 6 [x.cells])) H' → appendedD Try.prog 26 H' (Try.prog.underlying 23) (.sl none 0 0 true) = some (([] : List Item).map Item.cells) := fun H' h => (It.nil0 _).appended Try.underlying23
      repeat' (first
        | dsimp only [putD, DV.cells, DH.new_next, DH.set_next, List.length_cons, List.length_nil, Nat.reduceAdd, List.set_cons_zero, List.set_cons_succ, getD_zero, getD_succ, fieldAt_zero, fieldAt_succ, thenD, blockD, retR]
        | apply dwp_seq
        | apply dwp_region
        | apply ops_nil
        | (apply ops_plain; (· exact rfl))
        | (apply ops_on; (· exact rfl); (· exact rfl); (· (first | with_reducible assumption | with_reducible rfl | decide)))
        | (apply ops_off1; (· exact rfl); (· exact rfl); (· (first | with_reducible assumption | with_reducible rfl | decide)))
        | (apply ops_off0; (· exact rfl); (· exact rfl); (· (first | with_reducible assumption | with_reducible rfl | decide)))
        | (apply ops_offn; (· exact rfl); (· exact rfl))
        | (apply ops_split1; (· exact rfl); (· exact rfl); all_goals intro hb)
        | (apply ops_split0; (· exact rfl); (· exact rfl); all_goals intro hb)
        | (apply op_pick_t; (· exact rfl); (· exact rfl); (· (first | with_reducible assumption | with_reducible rfl | decide)); (· exact rfl))
        | (apply op_pick_f; (· exact rfl); (· exact rfl); (· (first | with_reducible assumption | with_reducible rfl | decide)); (· exact rfl))
        | (refine op_append_fresh (xt := 23) rfl rfl rfl E23 hnewA (cells_all _) (Nat.zero_le _) ?_; intro s1 H1 hm1 hab1 hfr1; have hbox1 := hab1.obj (l := H.next) (Nat.lt_succ_self _) (obj_here rfl); have hm1' := hm1.mono ((Above.refl H1).new (.rows false 6 [x.cells])))
        | (refine op_append (xt := 23) (new := [x.cells]) rfl rfl rfl E23 hm1' (hab1.new _) (appended_sl Try.underlying23 Sl.fresh _ _) rfl (by show 1 ≤ mostD; unfold mostD; omega) ?_; intro s2 H2 hm2 hab2 hax2 hfr2)
        | (refine op_append (xt := 23) rfl rfl rfl E23 hm2 hab2 (hnewB _ hab2) (cells_all _) (by show 1 ≤ mostD; unfold mostD; omega) ?_; intro s3 H3 hm3 hab3 hax3 hfr3)
        | (apply op_load_at; (· exact rfl); (· exact rfl); (· repeat (first | with_reducible assumption | (with_reducible apply obj_here; with_reducible rfl) | with_reducible apply obj_set | (with_reducible apply obj_skip_lo; (· ((repeat (first | with_reducible assumption | with_reducible apply Lo.self | with_reducible apply Lo.new | with_reducible apply Lo.set | with_reducible apply Lo.self1 | with_reducible apply Lo.self2)); done))) | (with_reducible apply obj_past; (· ((first | with_reducible assumption | with_reducible apply ne_add1 | with_reducible apply ne_add1' | with_reducible apply ne_add2 | with_reducible apply ne_add2' | with_reducible apply ne_add12 | with_reducible apply ne_add21 | (with_reducible apply Lo.ne; (repeat (first | with_reducible assumption | with_reducible apply Lo.self | with_reducible apply Lo.new | with_reducible apply Lo.set | with_reducible apply Lo.self1 | with_reducible apply Lo.self2)); done) | (with_reducible apply Lo.ne1; (repeat (first | with_reducible assumption | with_reducible apply Lo.self | with_reducible apply Lo.new | with_reducible apply Lo.set | with_reducible apply Lo.self1 | with_reducible apply Lo.self2)); done) | (with_reducible apply Lo.ne'; (repeat (first | with_reducible assumption | with_reducible apply Lo.self | with_reducible apply Lo.new | with_reducible apply Lo.set | with_reducible apply Lo.self1 | with_reducible apply Lo.self2)); done) | (with_reducible apply Lo.ne1'; (repeat (first | with_reducible assumption | with_reducible apply Lo.self | with_reducible apply Lo.new | with_reducible apply Lo.set | with_reducible apply Lo.self1 | with_reducible apply Lo.self2)); done)); done))))); (· exact rfl); (· exact rfl))
        | (apply op_store_at; (· exact rfl); (· exact rfl); (· exact rfl); (· repeat (first | with_reducible assumption | (with_reducible apply obj_here; with_reducible rfl) | with_reducible apply obj_set | (with_reducible apply obj_skip_lo; (· ((repeat (first | with_reducible assumption | with_reducible apply Lo.self | with_reducible apply Lo.new | with_reducible apply Lo.set | with_reducible apply Lo.self1 | with_reducible apply Lo.self2)); done))) | (with_reducible apply obj_past; (· ((first | with_reducible assumption | with_reducible apply ne_add1 | with_reducible apply ne_add1' | with_reducible apply ne_add2 | with_reducible apply ne_add2' | with_reducible apply ne_add12 | with_reducible apply ne_add21 | (with_reducible apply Lo.ne; (repeat (first | with_reducible assumption | with_reducible apply Lo.self | with_reducible apply Lo.new | with_reducible apply Lo.set | with_reducible apply Lo.self1 | with_reducible apply Lo.self2)); done) | (with_reducible apply Lo.ne1; (repeat (first | with_reducible assumption | with_reducible apply Lo.self | with_reducible apply Lo.new | with_reducible apply Lo.set | with_reducible apply Lo.self1 | with_reducible apply Lo.self2)); done) | (with_reducible apply Lo.ne'; (repeat (first | with_reducible assumption | with_reducible apply Lo.self | with_reducible apply Lo.new | with_reducible apply Lo.set | with_reducible apply Lo.self1 | with_reducible apply Lo.self2)); done) | (with_reducible apply Lo.ne1'; (repeat (first | with_reducible assumption | with_reducible apply Lo.self | with_reducible apply Lo.new | with_reducible apply Lo.set | with_reducible apply Lo.self1 | with_reducible apply Lo.self2)); done)); done))))); (· exact rfl); (· exact rfl); (· exact rfl))
        | (apply op_at; (· exact opD_eqb rfl rfl rfl rfl))
        | (apply op_at; (· exact opD_neqb rfl rfl rfl rfl))
        | (apply op_at; (· exact rfl))
        | refine dwp_draw _ rfl ?_
        | apply draw_nil
        | (apply all_and; (· kernel_rfl))
        | (apply was_and; (· kernel_rfl))
        | (apply draw_pure; (· (first | exact wanted_plain rfl | (apply wanted_on; (· exact rfl); (· exact rfl); (· (first | with_reducible assumption | with_reducible rfl | decide))))); (· exact rfl); (· exact rfl))
        | (apply draw_read; (· (first | exact wanted_plain rfl | (apply wanted_on; (· exact rfl); (· exact rfl); (· (first | with_reducible assumption | with_reducible rfl | decide))))); (· exact rfl); (· exact rfl))
        | (apply draw_move; (· (first | exact wanted_plain rfl | (apply wanted_on; (· exact rfl); (· exact rfl); (· (first | with_reducible assumption | with_reducible rfl | decide))))); (· exact rfl))
        | (apply draw_off; (· (first | (apply wanted_off1; (· exact rfl); (· exact rfl); (· (first | with_reducible assumption | with_reducible rfl | decide))) | (apply wanted_off0; (· exact rfl); (· exact rfl); (· (first | with_reducible assumption | with_reducible rfl | decide))) | (apply wanted_none; (· exact rfl); (· exact rfl)))))
        | (apply dwp_cond_t; (· exact rfl); (· (first | with_reducible assumption | with_reducible rfl | decide)))
        | (apply dwp_cond_f; (· exact rfl); (· (first | with_reducible assumption | with_reducible rfl | decide)))
        | (refine dwp_cond rfl ?_ ?_ <;> intro hb)
        | apply dwp_block
        | apply dwp_skip
        | apply dwp_ret
        | apply dwp_exit
        | (refine ⟨_, rfl, ?_⟩)
        | fail)
      refine ⟨hab0.trans hab3, ?_⟩
      have e : ([] : List Item).map Item.cells ++ [x.cells] ++ ([] : List Item).map Item.cells = (putL [] x).map Item.cells := rfl
      rw [e] at hm3
      exact (mine_itsF_ne hm3 (by intro h; cases h) (by unfold maxLen; show 1 ≤ _; omega)).older (Nat.le_succ _)
    | some q =>
      obtain ⟨loc, i0, z⟩ := q
      have hz := hl.sl.size
      subst hz
      generalize hkk : l.length = k at *
      have hcap := hl.cap
      have hinh : 0 ≤ (k : Int) ∧ (k : Int) ≤ (c : Int) := by omega
      have hinl : 0 ≤ (k : Int) ∧ (k : Int) ≤ (k : Int) := by omega
      have hnewA := hl0.take (k := k) (by omega) Try.underlying23
      have hnewB : ∀ H', Above (H.new (.rows false 6 [x.cells])) H' → appendedD Try.prog 26 H' (Try.prog.underlying 23) (.sl (some (loc, i0 + ((k : Int)).toNat, 6)) (k - ((k : Int)).toNat) (c - ((k : Int)).toNat) ex) = some ((l.drop k).map Item.cells) := fun H' h => by have h9 := (hl0.mono h).drop (k := k) (by omega) Try.underlying23; rw [hkk] at h9; exact h9
      repeat' (first
        | dsimp only [putD, DV.cells, DH.new_next, DH.set_next, List.length_cons, List.length_nil, Nat.reduceAdd, List.set_cons_zero, List.set_cons_succ, getD_zero, getD_succ, fieldAt_zero, fieldAt_succ, thenD, blockD, retR]
        | apply dwp_seq
        | apply dwp_region
        | apply ops_nil
        | (apply ops_plain; (· exact rfl))
        | (apply ops_on; (· exact rfl); (· exact rfl); (· (first | with_reducible assumption | with_reducible rfl | decide)))
        | (apply ops_off1; (· exact rfl); (· exact rfl); (· (first | with_reducible assumption | with_reducible rfl | decide)))
        | (apply ops_off0; (· exact rfl); (· exact rfl); (· (first | with_reducible assumption | with_reducible rfl | decide)))
        | (apply ops_offn; (· exact rfl); (· exact rfl))
        | (apply ops_split1; (· exact rfl); (· exact rfl); all_goals intro hb)
        | (apply ops_split0; (· exact rfl); (· exact rfl); all_goals intro hb)
        | (apply op_pick_t; (· exact rfl); (· exact rfl); (· (first | with_reducible assumption | with_reducible rfl | decide)); (· exact rfl))
        | (apply op_pick_f; (· exact rfl); (· exact rfl); (· (first | with_reducible assumption | with_reducible rfl | decide)); (· exact rfl))
        | (refine op_append_fresh (xt := 23) rfl rfl rfl E23 hnewA (cells_all _) (by rw [List.length_map, List.length_take]; unfold mostD; omega) ?_; intro s1 H1 hm1 hab1 hfr1; have hbox1 := hab1.obj (l := H.next) (Nat.lt_succ_self _) (obj_here rfl); have hm1' := hm1.mono ((Above.refl H1).new (.rows false 6 [x.cells])))
        | (refine op_append (xt := 23) (new := [x.cells]) rfl rfl rfl E23 hm1' (hab1.new _) (appended_sl Try.underlying23 Sl.fresh _ _) rfl (by rw [List.length_map, List.length_take]; show _ + 1 ≤ mostD; unfold mostD; omega) ?_; intro s2 H2 hm2 hab2 hax2 hfr2)
        | (refine op_append (xt := 23) rfl rfl rfl E23 hm2 hab2 (hnewB _ hab2) (cells_all _) (by rw [List.length_append, List.length_map, List.length_map, List.length_take, List.length_drop]; show _ + 1 + _ ≤ mostD; unfold mostD; omega) ?_; intro s3 H3 hm3 hab3 hax3 hfr3)
        | (apply op_at; (· exact opD_slice_hi rfl rfl rfl rfl rfl hinh))
        | (apply op_at; (· exact opD_slice_lo rfl rfl rfl rfl rfl hinl))
        | (apply op_load_at; (· exact rfl); (· exact rfl); (· repeat (first | with_reducible assumption | (with_reducible apply obj_here; with_reducible rfl) | with_reducible apply obj_set | (with_reducible apply obj_skip_lo; (· ((repeat (first | with_reducible assumption | with_reducible apply Lo.self | with_reducible apply Lo.new | with_reducible apply Lo.set | with_reducible apply Lo.self1 | with_reducible apply Lo.self2)); done))) | (with_reducible apply obj_past; (· ((first | with_reducible assumption | with_reducible apply ne_add1 | with_reducible apply ne_add1' | with_reducible apply ne_add2 | with_reducible apply ne_add2' | with_reducible apply ne_add12 | with_reducible apply ne_add21 | (with_reducible apply Lo.ne; (repeat (first | with_reducible assumption | with_reducible apply Lo.self | with_reducible apply Lo.new | with_reducible apply Lo.set | with_reducible apply Lo.self1 | with_reducible apply Lo.self2)); done) | (with_reducible apply Lo.ne1; (repeat (first | with_reducible assumption | with_reducible apply Lo.self | with_reducible apply Lo.new | with_reducible apply Lo.set | with_reducible apply Lo.self1 | with_reducible apply Lo.self2)); done) | (with_reducible apply Lo.ne'; (repeat (first | with_reducible assumption | with_reducible apply Lo.self | with_reducible apply Lo.new | with_reducible apply Lo.set | with_reducible apply Lo.self1 | with_reducible apply Lo.self2)); done) | (with_reducible apply Lo.ne1'; (repeat (first | with_reducible assumption | with_reducible apply Lo.self | with_reducible apply Lo.new | with_reducible apply Lo.set | with_reducible apply Lo.self1 | with_reducible apply Lo.self2)); done)); done))))); (· exact rfl); (· exact rfl))
        | (apply op_store_at; (· exact rfl); (· exact rfl); (· exact rfl); (· repeat (first | with_reducible assumption | (with_reducible apply obj_here; with_reducible rfl) | with_reducible apply obj_set | (with_reducible apply obj_skip_lo; (· ((repeat (first | with_reducible assumption | with_reducible apply Lo.self | with_reducible apply Lo.new | with_reducible apply Lo.set | with_reducible apply Lo.self1 | with_reducible apply Lo.self2)); done))) | (with_reducible apply obj_past; (· ((first | with_reducible assumption | with_reducible apply ne_add1 | with_reducible apply ne_add1' | with_reducible apply ne_add2 | with_reducible apply ne_add2' | with_reducible apply ne_add12 | with_reducible apply ne_add21 | (with_reducible apply Lo.ne; (repeat (first | with_reducible assumption | with_reducible apply Lo.self | with_reducible apply Lo.new | with_reducible apply Lo.set | with_reducible apply Lo.self1 | with_reducible apply Lo.self2)); done) | (with_reducible apply Lo.ne1; (repeat (first | with_reducible assumption | with_reducible apply Lo.self | with_reducible apply Lo.new | with_reducible apply Lo.set | with_reducible apply Lo.self1 | with_reducible apply Lo.self2)); done) | (with_reducible apply Lo.ne'; (repeat (first | with_reducible assumption | with_reducible apply Lo.self | with_reducible apply Lo.new | with_reducible apply Lo.set | with_reducible apply Lo.self1 | with_reducible apply Lo.self2)); done) | (with_reducible apply Lo.ne1'; (repeat (first | with_reducible assumption | with_reducible apply Lo.self | with_reducible apply Lo.new | with_reducible apply Lo.set | with_reducible apply Lo.self1 | with_reducible apply Lo.self2)); done)); done))))); (· exact rfl); (· exact rfl); (· exact rfl))
        | (apply op_at; (· exact opD_eqb rfl rfl rfl rfl))
        | (apply op_at; (· exact opD_neqb rfl rfl rfl rfl))
        | (apply op_at; (· exact rfl))
        | refine dwp_draw _ rfl ?_
        | apply draw_nil
        | (apply all_and; (· kernel_rfl))
        | (apply was_and; (· kernel_rfl))
        | (apply draw_pure; (· (first | exact wanted_plain rfl | (apply wanted_on; (· exact rfl); (· exact rfl); (· (first | with_reducible assumption | with_reducible rfl | decide))))); (· exact rfl); (· exact rfl))
        | (apply draw_read; (· (first | exact wanted_plain rfl | (apply wanted_on; (· exact rfl); (· exact rfl); (· (first | with_reducible assumption | with_reducible rfl | decide))))); (· exact rfl); (· exact rfl))
        | (apply draw_move; (· (first | exact wanted_plain rfl | (apply wanted_on; (· exact rfl); (· exact rfl); (· (first | with_reducible assumption | with_reducible rfl | decide))))); (· exact rfl))
        | (apply draw_off; (· (first | (apply wanted_off1; (· exact rfl); (· exact rfl); (· (first | with_reducible assumption | with_reducible rfl | decide))) | (apply wanted_off0; (· exact rfl); (· exact rfl); (· (first | with_reducible assumption | with_reducible rfl | decide))) | (apply wanted_none; (· exact rfl); (· exact rfl)))))
        | (apply dwp_cond_t; (· exact rfl); (· (first | with_reducible assumption | with_reducible rfl | decide)))
        | (apply dwp_cond_f; (· exact rfl); (· (first | with_reducible assumption | with_reducible rfl | decide)))
        | (refine dwp_cond rfl ?_ ?_ <;> intro hb)
        | apply dwp_block
        | apply dwp_skip
        | apply dwp_ret
        | apply dwp_exit
        | (refine ⟨_, rfl, ?_⟩)
        | fail)
      refine ⟨hab0.trans hab3, ?_⟩
      have e : (l.take k).map Item.cells ++ [x.cells] ++ (l.drop k).map Item.cells = (putL l x).map Item.cells := by rw [putL_at (by omega) hbef hex]; simp
      rw [e] at hm3
      exact (mine_itsF_ne hm3 (by intro h; have := putL_length l x; rw [h] at this; simp at this) (by rw [putL_length]; unfold maxLen; omega)).older (Nat.le_succ _)
end Go.Det.Q

/- One's own slice grows: where it leads to. -/
namespace Go.Det
set_option linter.unusedVariables false
set_option linter.unusedSimpArgs false
section
variable {P : Program} {X : Ext} {st e : TypeId} {z by_ : Nat} {z0 : DV}
/-- Something to be shown later. -/
structure Hold (p : Prop) : Prop where
  h : p
end
end Go.Det

/- Heaps, by the document's reference: sorted, with a thing more, without one. -/
namespace Go.Det.Q
open Go Go.Det Go.Proofs
set_option maxRecDepth 4000
set_option maxHeartbeats 4000000
set_option linter.unusedVariables false
set_option linter.unusedSimpArgs false
def sortL (l : List Item) : List Item := l.foldl putL []
theorem foldl_putL_length : ∀ (l m : List Item), (l.foldl putL m).length = m.length + l.length
  | [], m => rfl
  | x :: l, m => by rw [List.foldl_cons, foldl_putL_length l, putL_length, List.length_cons]; omega
theorem sortL_length (l : List Item) : (sortL l).length = l.length := by unfold sortL; rw [foldl_putL_length]; simp
theorem sortL_step {l : List Item} {k : Nat} {x : Item} (hx : l[k]? = some x) : sortL (l.take (k + 1)) = putL (sortL (l.take k)) x := by
  unfold sortL
  rw [List.take_add_one, hx, List.foldl_append]
  rfl
theorem sorted22 (H : DH) (p : Option (Nat × Nat × Nat)) (c : Nat) (ex : Bool) (l : List Item) (hl : It H p c ex l) (hn : l.length ≤ 1000000) :
    CallWp Try.prog X4 22 [.sl p l.length c ex] H (fun r H' => Above H H' ∧ ItsF H H' r (sortL l)) := by
  refine enter rfl Try.func22 rfl Try.ntmps22 rfl ?_
  dsimp only [List.cons_append, List.nil_append, List.length_cons, List.length_nil, List.replicate_succ, List.replicate_zero, Nat.reduceAdd, Nat.reduceSub]
  repeat' (first
    | dsimp only [putD, DV.cells, DH.new_next, DH.set_next, List.length_cons, List.length_nil, Nat.reduceAdd, List.set_cons_zero, List.set_cons_succ, getD_zero, getD_succ, fieldAt_zero, fieldAt_succ, thenD, blockD, retR]
    | apply dwp_seq
    | apply dwp_region
    | apply ops_nil
    | (apply ops_plain; (· exact rfl))
    | (apply ops_on; (· exact rfl); (· exact rfl); (· (first | with_reducible assumption | with_reducible rfl | decide)))
    | (apply ops_off1; (· exact rfl); (· exact rfl); (· (first | with_reducible assumption | with_reducible rfl | decide)))
    | (apply ops_off0; (· exact rfl); (· exact rfl); (· (first | with_reducible assumption | with_reducible rfl | decide)))
    | (apply ops_offn; (· exact rfl); (· exact rfl))
    | (apply ops_split1; (· exact rfl); (· exact rfl); all_goals intro hb)
    | (apply ops_split0; (· exact rfl); (· exact rfl); all_goals intro hb)
    | (apply op_pick_t; (· exact rfl); (· exact rfl); (· (first | with_reducible assumption | with_reducible rfl | decide)); (· exact rfl))
    | (apply op_pick_f; (· exact rfl); (· exact rfl); (· (first | with_reducible assumption | with_reducible rfl | decide)); (· exact rfl))
    | (apply op_load_at; (· exact rfl); (· exact rfl); (· repeat (first | with_reducible assumption | (with_reducible apply obj_here; with_reducible rfl) | with_reducible apply obj_set | (with_reducible apply obj_skip_lo; (· ((repeat (first | with_reducible assumption | with_reducible apply Lo.self | with_reducible apply Lo.new | with_reducible apply Lo.set | with_reducible apply Lo.self1 | with_reducible apply Lo.self2)); done))) | (with_reducible apply obj_past; (· ((first | with_reducible assumption | with_reducible apply ne_add1 | with_reducible apply ne_add1' | with_reducible apply ne_add2 | with_reducible apply ne_add2' | with_reducible apply ne_add12 | with_reducible apply ne_add21 | (with_reducible apply Lo.ne; (repeat (first | with_reducible assumption | with_reducible apply Lo.self | with_reducible apply Lo.new | with_reducible apply Lo.set | with_reducible apply Lo.self1 | with_reducible apply Lo.self2)); done) | (with_reducible apply Lo.ne1; (repeat (first | with_reducible assumption | with_reducible apply Lo.self | with_reducible apply Lo.new | with_reducible apply Lo.set | with_reducible apply Lo.self1 | with_reducible apply Lo.self2)); done) | (with_reducible apply Lo.ne'; (repeat (first | with_reducible assumption | with_reducible apply Lo.self | with_reducible apply Lo.new | with_reducible apply Lo.set | with_reducible apply Lo.self1 | with_reducible apply Lo.self2)); done) | (with_reducible apply Lo.ne1'; (repeat (first | with_reducible assumption | with_reducible apply Lo.self | with_reducible apply Lo.new | with_reducible apply Lo.set | with_reducible apply Lo.self1 | with_reducible apply Lo.self2)); done)); done))))); (· exact rfl); (· exact rfl))
    | (apply op_store_at; (· exact rfl); (· exact rfl); (· exact rfl); (· repeat (first | with_reducible assumption | (with_reducible apply obj_here; with_reducible rfl) | with_reducible apply obj_set | (with_reducible apply obj_skip_lo; (· ((repeat (first | with_reducible assumption | with_reducible apply Lo.self | with_reducible apply Lo.new | with_reducible apply Lo.set | with_reducible apply Lo.self1 | with_reducible apply Lo.self2)); done))) | (with_reducible apply obj_past; (· ((first | with_reducible assumption | with_reducible apply ne_add1 | with_reducible apply ne_add1' | with_reducible apply ne_add2 | with_reducible apply ne_add2' | with_reducible apply ne_add12 | with_reducible apply ne_add21 | (with_reducible apply Lo.ne; (repeat (first | with_reducible assumption | with_reducible apply Lo.self | with_reducible apply Lo.new | with_reducible apply Lo.set | with_reducible apply Lo.self1 | with_reducible apply Lo.self2)); done) | (with_reducible apply Lo.ne1; (repeat (first | with_reducible assumption | with_reducible apply Lo.self | with_reducible apply Lo.new | with_reducible apply Lo.set | with_reducible apply Lo.self1 | with_reducible apply Lo.self2)); done) | (with_reducible apply Lo.ne'; (repeat (first | with_reducible assumption | with_reducible apply Lo.self | with_reducible apply Lo.new | with_reducible apply Lo.set | with_reducible apply Lo.self1 | with_reducible apply Lo.self2)); done) | (with_reducible apply Lo.ne1'; (repeat (first | with_reducible assumption | with_reducible apply Lo.self | with_reducible apply Lo.new | with_reducible apply Lo.set | with_reducible apply Lo.self1 | with_reducible apply Lo.self2)); done)); done))))); (· exact rfl); (· exact rfl); (· exact rfl))
    | (apply op_at; (· exact opD_eqb rfl rfl rfl rfl))
    | (apply op_at; (· exact opD_neqb rfl rfl rfl rfl))
    | (apply op_at; (· exact rfl))
    | (apply dwp_cond_t; (· exact rfl); (· (first | with_reducible assumption | with_reducible rfl | decide)))
    | (apply dwp_cond_f; (· exact rfl); (· (first | with_reducible assumption | with_reducible rfl | decide)))
    | (refine dwp_cond rfl ?_ ?_ <;> intro hb)
    | apply dwp_block
    | apply dwp_skip
    | apply dwp_ret
    | apply dwp_exit
    | (refine ⟨_, rfl, ?_⟩)
    | fail)
  refine dwp_loop (fun st => ∃ (Hk : DH) (k : Nat) (s : DV), ∃ J : Nat → DV, (k ≤ l.length ∧ Above H Hk ∧ ItsF H Hk s (sortL (l.take k))) ∧ st = ⟨[.sl p l.length c ex, J 1, J 2, s, J 4, J 5, .sl p l.length c ex, .int .i64 l.length, .int .i64 (k : Int), J 9, J 10, J 11, J 12, J 13, J 14, J 15, J 16], Hk⟩) (fun st => l.length - kOf st 8) (⟨H, 0, _, junk_facts (⟨Nat.zero_le _, Above.refl H, ⟨none, 0, true, rfl, .nil0 H, fun _ _ _ h => (by cases h)⟩⟩) rfl rfl⟩) ?_
  rintro st ⟨Hk, k, s, J, ⟨hk, hab, hs⟩, rfl⟩
  by_cases hlt : k < l.length
  · obtain ⟨x, hx⟩ : ∃ x, l[k]? = some x := ⟨l[k], List.getElem?_eq_getElem hlt⟩
    obtain ⟨loc, i0, ro, rs, rfl, hloc, ho, hrx⟩ := (hl.mono hab).rd hx
    have hr1 : rs[i0 + ((k : Int)).toNat]? = some x.cells := by rw [Int.toNat_natCast]; exact hrx
    have hc : decide ((k : Int) < (l.length : Int)) = true := by simp [hlt]
    have hin1 : 0 ≤ (k : Int) ∧ (k : Int) < (l.length : Int) := by omega
    have hw := wrapNat (k := k) (by omega)
    obtain ⟨p2, c2, e2, rfl, hi2, hf2⟩ := hs
    have hk2 : (sortL (l.take k)).length ≤ 1000000 := by rw [sortL_length, List.length_take]; omega
    have hab2 : Above Hk ((Hk.new (.rows false 6 [itemZero])).set Hk.next (some (.rows false 6 [x.cells]))) := ((Above.refl Hk).new _).set (Nat.le_refl _) _
    repeat' (first
      | dsimp only [putD, DV.cells, DH.new_next, DH.set_next, List.length_cons, List.length_nil, Nat.reduceAdd, List.set_cons_zero, List.set_cons_succ, getD_zero, getD_succ, fieldAt_zero, fieldAt_succ, thenD, blockD, retR]
      | apply dwp_seq
      | apply dwp_region
      | apply ops_nil
      | (apply ops_plain; (· exact rfl))
      | (apply ops_on; (· exact rfl); (· exact rfl); (· (first | with_reducible assumption | with_reducible rfl | decide)))
      | (apply ops_off1; (· exact rfl); (· exact rfl); (· (first | with_reducible assumption | with_reducible rfl | decide)))
      | (apply ops_off0; (· exact rfl); (· exact rfl); (· (first | with_reducible assumption | with_reducible rfl | decide)))
      | (apply ops_offn; (· exact rfl); (· exact rfl))
      | (apply ops_split1; (· exact rfl); (· exact rfl); all_goals intro hb)
      | (apply ops_split0; (· exact rfl); (· exact rfl); all_goals intro hb)
      | (apply op_call; (· exact rfl); (· exact rfl); (· exact rfl); refine (put57 _ p2 c2 e2 _ x (hi2.mono hab2) hk2).mono ?_; rintro r H1 ⟨hab3, hr⟩)
      | (apply op_pick_t; (· exact rfl); (· exact rfl); (· (first | with_reducible assumption | with_reducible rfl | decide)); (· exact rfl))
      | (apply op_pick_f; (· exact rfl); (· exact rfl); (· (first | with_reducible assumption | with_reducible rfl | decide)); (· exact rfl))
      | (apply op_index_at; (· exact rfl); (· exact rfl); (· exact rfl); (· with_reducible exact hin1); (· exact rfl); (· exact rfl))
      | (apply op_load_at; (· exact rfl); (· exact rfl); (· with_reducible exact ho); (· with_reducible exact hr1); (· exact (item_part x)))
      | (apply op_load_at; (· exact rfl); (· exact rfl); (· repeat (first | with_reducible assumption | (with_reducible apply obj_here; with_reducible rfl) | with_reducible apply obj_set | (with_reducible apply obj_skip_lo; (· ((repeat (first | with_reducible assumption | with_reducible apply Lo.self | with_reducible apply Lo.new | with_reducible apply Lo.set | with_reducible apply Lo.self1 | with_reducible apply Lo.self2)); done))) | (with_reducible apply obj_past; (· ((first | with_reducible assumption | with_reducible apply ne_add1 | with_reducible apply ne_add1' | with_reducible apply ne_add2 | with_reducible apply ne_add2' | with_reducible apply ne_add12 | with_reducible apply ne_add21 | (with_reducible apply Lo.ne; (repeat (first | with_reducible assumption | with_reducible apply Lo.self | with_reducible apply Lo.new | with_reducible apply Lo.set | with_reducible apply Lo.self1 | with_reducible apply Lo.self2)); done) | (with_reducible apply Lo.ne1; (repeat (first | with_reducible assumption | with_reducible apply Lo.self | with_reducible apply Lo.new | with_reducible apply Lo.set | with_reducible apply Lo.self1 | with_reducible apply Lo.self2)); done) | (with_reducible apply Lo.ne'; (repeat (first | with_reducible assumption | with_reducible apply Lo.self | with_reducible apply Lo.new | with_reducible apply Lo.set | with_reducible apply Lo.self1 | with_reducible apply Lo.self2)); done) | (with_reducible apply Lo.ne1'; (repeat (first | with_reducible assumption | with_reducible apply Lo.self | with_reducible apply Lo.new | with_reducible apply Lo.set | with_reducible apply Lo.self1 | with_reducible apply Lo.self2)); done)); done))))); (· exact rfl); (· exact item_part x))
      | (apply op_load_at; (· exact rfl); (· exact rfl); (· repeat (first | with_reducible assumption | (with_reducible apply obj_here; with_reducible rfl) | with_reducible apply obj_set | (with_reducible apply obj_skip_lo; (· ((repeat (first | with_reducible assumption | with_reducible apply Lo.self | with_reducible apply Lo.new | with_reducible apply Lo.set | with_reducible apply Lo.self1 | with_reducible apply Lo.self2)); done))) | (with_reducible apply obj_past; (· ((first | with_reducible assumption | with_reducible apply ne_add1 | with_reducible apply ne_add1' | with_reducible apply ne_add2 | with_reducible apply ne_add2' | with_reducible apply ne_add12 | with_reducible apply ne_add21 | (with_reducible apply Lo.ne; (repeat (first | with_reducible assumption | with_reducible apply Lo.self | with_reducible apply Lo.new | with_reducible apply Lo.set | with_reducible apply Lo.self1 | with_reducible apply Lo.self2)); done) | (with_reducible apply Lo.ne1; (repeat (first | with_reducible assumption | with_reducible apply Lo.self | with_reducible apply Lo.new | with_reducible apply Lo.set | with_reducible apply Lo.self1 | with_reducible apply Lo.self2)); done) | (with_reducible apply Lo.ne'; (repeat (first | with_reducible assumption | with_reducible apply Lo.self | with_reducible apply Lo.new | with_reducible apply Lo.set | with_reducible apply Lo.self1 | with_reducible apply Lo.self2)); done) | (with_reducible apply Lo.ne1'; (repeat (first | with_reducible assumption | with_reducible apply Lo.self | with_reducible apply Lo.new | with_reducible apply Lo.set | with_reducible apply Lo.self1 | with_reducible apply Lo.self2)); done)); done))))); (· exact rfl); (· exact rfl))
      | (apply op_store_at; (· exact rfl); (· exact rfl); (· exact rfl); (· repeat (first | with_reducible assumption | (with_reducible apply obj_here; with_reducible rfl) | with_reducible apply obj_set | (with_reducible apply obj_skip_lo; (· ((repeat (first | with_reducible assumption | with_reducible apply Lo.self | with_reducible apply Lo.new | with_reducible apply Lo.set | with_reducible apply Lo.self1 | with_reducible apply Lo.self2)); done))) | (with_reducible apply obj_past; (· ((first | with_reducible assumption | with_reducible apply ne_add1 | with_reducible apply ne_add1' | with_reducible apply ne_add2 | with_reducible apply ne_add2' | with_reducible apply ne_add12 | with_reducible apply ne_add21 | (with_reducible apply Lo.ne; (repeat (first | with_reducible assumption | with_reducible apply Lo.self | with_reducible apply Lo.new | with_reducible apply Lo.set | with_reducible apply Lo.self1 | with_reducible apply Lo.self2)); done) | (with_reducible apply Lo.ne1; (repeat (first | with_reducible assumption | with_reducible apply Lo.self | with_reducible apply Lo.new | with_reducible apply Lo.set | with_reducible apply Lo.self1 | with_reducible apply Lo.self2)); done) | (with_reducible apply Lo.ne'; (repeat (first | with_reducible assumption | with_reducible apply Lo.self | with_reducible apply Lo.new | with_reducible apply Lo.set | with_reducible apply Lo.self1 | with_reducible apply Lo.self2)); done) | (with_reducible apply Lo.ne1'; (repeat (first | with_reducible assumption | with_reducible apply Lo.self | with_reducible apply Lo.new | with_reducible apply Lo.set | with_reducible apply Lo.self1 | with_reducible apply Lo.self2)); done)); done))))); (· exact rfl); (· exact rfl); (· exact rfl))
      | (apply op_at; (· exact opD_eqb rfl rfl rfl rfl))
      | (apply op_at; (· exact opD_neqb rfl rfl rfl rfl))
      | (apply op_at; (· exact rfl))
      | (apply dwp_cond_t; (· exact rfl); (· (first | with_reducible assumption | with_reducible rfl | decide)))
      | (apply dwp_cond_f; (· exact rfl); (· (first | with_reducible assumption | with_reducible rfl | decide)))
      | (refine dwp_cond rfl ?_ ?_ <;> intro hb)
      | apply dwp_block
      | apply dwp_skip
      | apply dwp_ret
      | apply dwp_exit
      | (refine ⟨_, rfl, ?_⟩)
      | fail)
    rw [hw]
    refine ⟨⟨_, k + 1, _, junk_facts (⟨by omega, hab.trans (hab2.trans hab3), by rw [sortL_step hx]; exact hr.older (Nat.le_trans hab.le hab2.le)⟩) rfl rfl⟩, ?_⟩
    show l.length - ((k + 1 : Nat) : Int).toNat < l.length - (k : Int).toNat
    omega
  · have hc : decide ((k : Int) < (l.length : Int)) = false := by simp; omega
    obtain rfl : k = l.length := by omega
    rw [List.take_length] at hs
    repeat' (first
      | dsimp only [putD, DV.cells, DH.new_next, DH.set_next, List.length_cons, List.length_nil, Nat.reduceAdd, List.set_cons_zero, List.set_cons_succ, getD_zero, getD_succ, fieldAt_zero, fieldAt_succ, thenD, blockD, retR]
      | apply dwp_seq
      | apply dwp_region
      | apply ops_nil
      | (apply ops_plain; (· exact rfl))
      | (apply ops_on; (· exact rfl); (· exact rfl); (· (first | with_reducible assumption | with_reducible rfl | decide)))
      | (apply ops_off1; (· exact rfl); (· exact rfl); (· (first | with_reducible assumption | with_reducible rfl | decide)))
      | (apply ops_off0; (· exact rfl); (· exact rfl); (· (first | with_reducible assumption | with_reducible rfl | decide)))
      | (apply ops_offn; (· exact rfl); (· exact rfl))
      | (apply ops_split1; (· exact rfl); (· exact rfl); all_goals intro hb)
      | (apply ops_split0; (· exact rfl); (· exact rfl); all_goals intro hb)
      | (apply op_pick_t; (· exact rfl); (· exact rfl); (· (first | with_reducible assumption | with_reducible rfl | decide)); (· exact rfl))
      | (apply op_pick_f; (· exact rfl); (· exact rfl); (· (first | with_reducible assumption | with_reducible rfl | decide)); (· exact rfl))
      | (apply op_load_at; (· exact rfl); (· exact rfl); (· repeat (first | with_reducible assumption | (with_reducible apply obj_here; with_reducible rfl) | with_reducible apply obj_set | (with_reducible apply obj_skip_lo; (· ((repeat (first | with_reducible assumption | with_reducible apply Lo.self | with_reducible apply Lo.new | with_reducible apply Lo.set | with_reducible apply Lo.self1 | with_reducible apply Lo.self2)); done))) | (with_reducible apply obj_past; (· ((first | with_reducible assumption | with_reducible apply ne_add1 | with_reducible apply ne_add1' | with_reducible apply ne_add2 | with_reducible apply ne_add2' | with_reducible apply ne_add12 | with_reducible apply ne_add21 | (with_reducible apply Lo.ne; (repeat (first | with_reducible assumption | with_reducible apply Lo.self | with_reducible apply Lo.new | with_reducible apply Lo.set | with_reducible apply Lo.self1 | with_reducible apply Lo.self2)); done) | (with_reducible apply Lo.ne1; (repeat (first | with_reducible assumption | with_reducible apply Lo.self | with_reducible apply Lo.new | with_reducible apply Lo.set | with_reducible apply Lo.self1 | with_reducible apply Lo.self2)); done) | (with_reducible apply Lo.ne'; (repeat (first | with_reducible assumption | with_reducible apply Lo.self | with_reducible apply Lo.new | with_reducible apply Lo.set | with_reducible apply Lo.self1 | with_reducible apply Lo.self2)); done) | (with_reducible apply Lo.ne1'; (repeat (first | with_reducible assumption | with_reducible apply Lo.self | with_reducible apply Lo.new | with_reducible apply Lo.set | with_reducible apply Lo.self1 | with_reducible apply Lo.self2)); done)); done))))); (· exact rfl); (· exact rfl))
      | (apply op_store_at; (· exact rfl); (· exact rfl); (· exact rfl); (· repeat (first | with_reducible assumption | (with_reducible apply obj_here; with_reducible rfl) | with_reducible apply obj_set | (with_reducible apply obj_skip_lo; (· ((repeat (first | with_reducible assumption | with_reducible apply Lo.self | with_reducible apply Lo.new | with_reducible apply Lo.set | with_reducible apply Lo.self1 | with_reducible apply Lo.self2)); done))) | (with_reducible apply obj_past; (· ((first | with_reducible assumption | with_reducible apply ne_add1 | with_reducible apply ne_add1' | with_reducible apply ne_add2 | with_reducible apply ne_add2' | with_reducible apply ne_add12 | with_reducible apply ne_add21 | (with_reducible apply Lo.ne; (repeat (first | with_reducible assumption | with_reducible apply Lo.self | with_reducible apply Lo.new | with_reducible apply Lo.set | with_reducible apply Lo.self1 | with_reducible apply Lo.self2)); done) | (with_reducible apply Lo.ne1; (repeat (first | with_reducible assumption | with_reducible apply Lo.self | with_reducible apply Lo.new | with_reducible apply Lo.set | with_reducible apply Lo.self1 | with_reducible apply Lo.self2)); done) | (with_reducible apply Lo.ne'; (repeat (first | with_reducible assumption | with_reducible apply Lo.self | with_reducible apply Lo.new | with_reducible apply Lo.set | with_reducible apply Lo.self1 | with_reducible apply Lo.self2)); done) | (with_reducible apply Lo.ne1'; (repeat (first | with_reducible assumption | with_reducible apply Lo.self | with_reducible apply Lo.new | with_reducible apply Lo.set | with_reducible apply Lo.self1 | with_reducible apply Lo.self2)); done)); done))))); (· exact rfl); (· exact rfl); (· exact rfl))
      | (apply op_at; (· exact opD_eqb rfl rfl rfl rfl))
      | (apply op_at; (· exact opD_neqb rfl rfl rfl rfl))
      | (apply op_at; (· exact rfl))
      | (apply dwp_cond_t; (· exact rfl); (· (first | with_reducible assumption | with_reducible rfl | decide)))
      | (apply dwp_cond_f; (· exact rfl); (· (first | with_reducible assumption | with_reducible rfl | decide)))
      | (refine dwp_cond rfl ?_ ?_ <;> intro hb)
      | apply dwp_block
      | apply dwp_skip
      | apply dwp_ret
      | apply dwp_exit
      | (refine ⟨_, rfl, ?_⟩)
      | fail)
    exact ⟨hab, hs⟩
theorem is25 (H : DH) (p p' : Option (Nat × Nat × Nat)) (c c' : Nat) (ex ex' : Bool) (l m : List Item) (hl : It H p c ex l) (hm : It H p' c' ex' m) (hn : l.length ≤ 1000000) :
    CallWp Try.prog X4 25 [.sl p l.length c ex, .sl p' m.length c' ex'] H (fun r H' => Above H H' ∧ r = .bool (checkB l && decide (sortL l = m))) := by
  have hchk := hl.check
  cases hcb : checkB l with
  | false =>
    rw [hcb] at hchk
    refine enter rfl Try.func25 rfl Try.ntmps25 rfl ?_
    dsimp only [List.cons_append, List.nil_append, List.length_cons, List.length_nil, List.replicate_succ, List.replicate_zero, Nat.reduceAdd, Nat.reduceSub]
    repeat' (first
      | dsimp only [putD, DV.cells, DH.new_next, DH.set_next, List.length_cons, List.length_nil, Nat.reduceAdd, List.set_cons_zero, List.set_cons_succ, getD_zero, getD_succ, fieldAt_zero, fieldAt_succ, thenD, blockD, retR]
      | apply dwp_seq
      | apply dwp_region
      | apply ops_nil
      | (apply ops_plain; (· exact rfl))
      | (apply ops_on; (· exact rfl); (· exact rfl); (· (first | with_reducible assumption | with_reducible rfl | decide)))
      | (apply ops_off1; (· exact rfl); (· exact rfl); (· (first | with_reducible assumption | with_reducible rfl | decide)))
      | (apply ops_off0; (· exact rfl); (· exact rfl); (· (first | with_reducible assumption | with_reducible rfl | decide)))
      | (apply ops_offn; (· exact rfl); (· exact rfl))
      | (apply ops_split1; (· exact rfl); (· exact rfl); all_goals intro hb)
      | (apply ops_split0; (· exact rfl); (· exact rfl); all_goals intro hb)
      | (apply op_call; (· exact rfl); (· exact rfl); (· exact rfl); refine call_table (g := gCheck) rfl hchk ?_)
      | (apply op_pick_t; (· exact rfl); (· exact rfl); (· (first | with_reducible assumption | with_reducible rfl | decide)); (· exact rfl))
      | (apply op_pick_f; (· exact rfl); (· exact rfl); (· (first | with_reducible assumption | with_reducible rfl | decide)); (· exact rfl))
      | (apply op_load_at; (· exact rfl); (· exact rfl); (· repeat (first | with_reducible assumption | (with_reducible apply obj_here; with_reducible rfl) | with_reducible apply obj_set | (with_reducible apply obj_skip_lo; (· ((repeat (first | with_reducible assumption | with_reducible apply Lo.self | with_reducible apply Lo.new | with_reducible apply Lo.set | with_reducible apply Lo.self1 | with_reducible apply Lo.self2)); done))) | (with_reducible apply obj_past; (· ((first | with_reducible assumption | with_reducible apply ne_add1 | with_reducible apply ne_add1' | with_reducible apply ne_add2 | with_reducible apply ne_add2' | with_reducible apply ne_add12 | with_reducible apply ne_add21 | (with_reducible apply Lo.ne; (repeat (first | with_reducible assumption | with_reducible apply Lo.self | with_reducible apply Lo.new | with_reducible apply Lo.set | with_reducible apply Lo.self1 | with_reducible apply Lo.self2)); done) | (with_reducible apply Lo.ne1; (repeat (first | with_reducible assumption | with_reducible apply Lo.self | with_reducible apply Lo.new | with_reducible apply Lo.set | with_reducible apply Lo.self1 | with_reducible apply Lo.self2)); done) | (with_reducible apply Lo.ne'; (repeat (first | with_reducible assumption | with_reducible apply Lo.self | with_reducible apply Lo.new | with_reducible apply Lo.set | with_reducible apply Lo.self1 | with_reducible apply Lo.self2)); done) | (with_reducible apply Lo.ne1'; (repeat (first | with_reducible assumption | with_reducible apply Lo.self | with_reducible apply Lo.new | with_reducible apply Lo.set | with_reducible apply Lo.self1 | with_reducible apply Lo.self2)); done)); done))))); (· exact rfl); (· exact rfl))
      | (apply op_store_at; (· exact rfl); (· exact rfl); (· exact rfl); (· repeat (first | with_reducible assumption | (with_reducible apply obj_here; with_reducible rfl) | with_reducible apply obj_set | (with_reducible apply obj_skip_lo; (· ((repeat (first | with_reducible assumption | with_reducible apply Lo.self | with_reducible apply Lo.new | with_reducible apply Lo.set | with_reducible apply Lo.self1 | with_reducible apply Lo.self2)); done))) | (with_reducible apply obj_past; (· ((first | with_reducible assumption | with_reducible apply ne_add1 | with_reducible apply ne_add1' | with_reducible apply ne_add2 | with_reducible apply ne_add2' | with_reducible apply ne_add12 | with_reducible apply ne_add21 | (with_reducible apply Lo.ne; (repeat (first | with_reducible assumption | with_reducible apply Lo.self | with_reducible apply Lo.new | with_reducible apply Lo.set | with_reducible apply Lo.self1 | with_reducible apply Lo.self2)); done) | (with_reducible apply Lo.ne1; (repeat (first | with_reducible assumption | with_reducible apply Lo.self | with_reducible apply Lo.new | with_reducible apply Lo.set | with_reducible apply Lo.self1 | with_reducible apply Lo.self2)); done) | (with_reducible apply Lo.ne'; (repeat (first | with_reducible assumption | with_reducible apply Lo.self | with_reducible apply Lo.new | with_reducible apply Lo.set | with_reducible apply Lo.self1 | with_reducible apply Lo.self2)); done) | (with_reducible apply Lo.ne1'; (repeat (first | with_reducible assumption | with_reducible apply Lo.self | with_reducible apply Lo.new | with_reducible apply Lo.set | with_reducible apply Lo.self1 | with_reducible apply Lo.self2)); done)); done))))); (· exact rfl); (· exact rfl); (· exact rfl))
      | (apply op_at; (· exact opD_eqb rfl rfl rfl rfl))
      | (apply op_at; (· exact opD_neqb rfl rfl rfl rfl))
      | (apply op_at; (· exact rfl))
      | (apply dwp_cond_t; (· exact rfl); (· (first | with_reducible assumption | with_reducible rfl | decide)))
      | (apply dwp_cond_f; (· exact rfl); (· (first | with_reducible assumption | with_reducible rfl | decide)))
      | (refine dwp_cond rfl ?_ ?_ <;> intro hb)
      | apply dwp_block
      | apply dwp_skip
      | apply dwp_ret
      | apply dwp_exit
      | (refine ⟨_, rfl, ?_⟩)
      | fail)
    exact ⟨Above.refl H, rfl⟩
  | true =>
    rw [hcb] at hchk
    refine enter rfl Try.func25 rfl Try.ntmps25 rfl ?_
    dsimp only [List.cons_append, List.nil_append, List.length_cons, List.length_nil, List.replicate_succ, List.replicate_zero, Nat.reduceAdd, Nat.reduceSub]
    repeat' (first
      | dsimp only [putD, DV.cells, DH.new_next, DH.set_next, List.length_cons, List.length_nil, Nat.reduceAdd, List.set_cons_zero, List.set_cons_succ, getD_zero, getD_succ, fieldAt_zero, fieldAt_succ, thenD, blockD, retR]
      | apply dwp_seq
      | apply dwp_region
      | apply ops_nil
      | (apply ops_plain; (· exact rfl))
      | (apply ops_on; (· exact rfl); (· exact rfl); (· (first | with_reducible assumption | with_reducible rfl | decide)))
      | (apply ops_off1; (· exact rfl); (· exact rfl); (· (first | with_reducible assumption | with_reducible rfl | decide)))
      | (apply ops_off0; (· exact rfl); (· exact rfl); (· (first | with_reducible assumption | with_reducible rfl | decide)))
      | (apply ops_offn; (· exact rfl); (· exact rfl))
      | (apply ops_split1; (· exact rfl); (· exact rfl); all_goals intro hb)
      | (apply ops_split0; (· exact rfl); (· exact rfl); all_goals intro hb)
      | (apply op_call; (· exact rfl); (· exact rfl); (· exact rfl); refine call_table (g := gCheck) rfl hchk ?_)
      | (apply op_call; (· exact rfl); (· exact rfl); (· exact rfl); refine (sorted22 _ p c ex l hl hn).mono ?_; rintro r1 H1 ⟨hab1, ⟨p2, c2, e2, heq, hi2, hf2⟩⟩; subst heq; have hsm := hi2.same (hm.mono hab1))
      | (apply op_call; (· exact rfl); (· exact rfl); (· exact rfl); refine call_table (g := gSame) rfl hsm ?_)
      | (apply op_pick_t; (· exact rfl); (· exact rfl); (· (first | with_reducible assumption | with_reducible rfl | decide)); (· exact rfl))
      | (apply op_pick_f; (· exact rfl); (· exact rfl); (· (first | with_reducible assumption | with_reducible rfl | decide)); (· exact rfl))
      | (apply op_load_at; (· exact rfl); (· exact rfl); (· repeat (first | with_reducible assumption | (with_reducible apply obj_here; with_reducible rfl) | with_reducible apply obj_set | (with_reducible apply obj_skip_lo; (· ((repeat (first | with_reducible assumption | with_reducible apply Lo.self | with_reducible apply Lo.new | with_reducible apply Lo.set | with_reducible apply Lo.self1 | with_reducible apply Lo.self2)); done))) | (with_reducible apply obj_past; (· ((first | with_reducible assumption | with_reducible apply ne_add1 | with_reducible apply ne_add1' | with_reducible apply ne_add2 | with_reducible apply ne_add2' | with_reducible apply ne_add12 | with_reducible apply ne_add21 | (with_reducible apply Lo.ne; (repeat (first | with_reducible assumption | with_reducible apply Lo.self | with_reducible apply Lo.new | with_reducible apply Lo.set | with_reducible apply Lo.self1 | with_reducible apply Lo.self2)); done) | (with_reducible apply Lo.ne1; (repeat (first | with_reducible assumption | with_reducible apply Lo.self | with_reducible apply Lo.new | with_reducible apply Lo.set | with_reducible apply Lo.self1 | with_reducible apply Lo.self2)); done) | (with_reducible apply Lo.ne'; (repeat (first | with_reducible assumption | with_reducible apply Lo.self | with_reducible apply Lo.new | with_reducible apply Lo.set | with_reducible apply Lo.self1 | with_reducible apply Lo.self2)); done) | (with_reducible apply Lo.ne1'; (repeat (first | with_reducible assumption | with_reducible apply Lo.self | with_reducible apply Lo.new | with_reducible apply Lo.set | with_reducible apply Lo.self1 | with_reducible apply Lo.self2)); done)); done))))); (· exact rfl); (· exact rfl))
      | (apply op_store_at; (· exact rfl); (· exact rfl); (· exact rfl); (· repeat (first | with_reducible assumption | (with_reducible apply obj_here; with_reducible rfl) | with_reducible apply obj_set | (with_reducible apply obj_skip_lo; (· ((repeat (first | with_reducible assumption | with_reducible apply Lo.self | with_reducible apply Lo.new | with_reducible apply Lo.set | with_reducible apply Lo.self1 | with_reducible apply Lo.self2)); done))) | (with_reducible apply obj_past; (· ((first | with_reducible assumption | with_reducible apply ne_add1 | with_reducible apply ne_add1' | with_reducible apply ne_add2 | with_reducible apply ne_add2' | with_reducible apply ne_add12 | with_reducible apply ne_add21 | (with_reducible apply Lo.ne; (repeat (first | with_reducible assumption | with_reducible apply Lo.self | with_reducible apply Lo.new | with_reducible apply Lo.set | with_reducible apply Lo.self1 | with_reducible apply Lo.self2)); done) | (with_reducible apply Lo.ne1; (repeat (first | with_reducible assumption | with_reducible apply Lo.self | with_reducible apply Lo.new | with_reducible apply Lo.set | with_reducible apply Lo.self1 | with_reducible apply Lo.self2)); done) | (with_reducible apply Lo.ne'; (repeat (first | with_reducible assumption | with_reducible apply Lo.self | with_reducible apply Lo.new | with_reducible apply Lo.set | with_reducible apply Lo.self1 | with_reducible apply Lo.self2)); done) | (with_reducible apply Lo.ne1'; (repeat (first | with_reducible assumption | with_reducible apply Lo.self | with_reducible apply Lo.new | with_reducible apply Lo.set | with_reducible apply Lo.self1 | with_reducible apply Lo.self2)); done)); done))))); (· exact rfl); (· exact rfl); (· exact rfl))
      | (apply op_at; (· exact opD_eqb rfl rfl rfl rfl))
      | (apply op_at; (· exact opD_neqb rfl rfl rfl rfl))
      | (apply op_at; (· exact rfl))
      | (apply dwp_cond_t; (· exact rfl); (· (first | with_reducible assumption | with_reducible rfl | decide)))
      | (apply dwp_cond_f; (· exact rfl); (· (first | with_reducible assumption | with_reducible rfl | decide)))
      | (refine dwp_cond rfl ?_ ?_ <;> intro hb)
      | apply dwp_block
      | apply dwp_skip
      | apply dwp_ret
      | apply dwp_exit
      | (refine ⟨_, rfl, ?_⟩)
      | fail)
    exact ⟨hab1, rfl⟩
end Go.Det.Q

/- Heaps, plainly: what is taken up or down keeps the order, and the same things. -/
namespace Go.Det.Q
open Go Go.Det Go.Proofs
set_option maxHeartbeats 1000000
set_option linter.unusedVariables false
set_option linter.unusedSimpArgs false
open List
instance : Inhabited Item := ⟨⟨0, 0, 0, 0, 0, 0⟩⟩
def g (l : List Item) (i : Nat) : Item := l.getD i default
theorem g_at {l : List Item} {i : Nat} (h : i < l.length) : l[i]? = some (g l i) := by simp [g, List.getD, List.getElem?_eq_getElem h]
theorem g_of {l : List Item} {i : Nat} {x : Item} (h : l[i]? = some x) : g l i = x := by simp [g, List.getD, h]
theorem g_set {l : List Item} {i j : Nat} {x : Item} (h : i < l.length) : g (l.set i x) j = if i = j then x else g l j := by
  simp only [g, List.getD, List.getElem?_set]
  split
  · rename_i e; subst e; simp [h]
  · rfl
/-- A thing does not come ahead of the one above. -/
def okAt (l : List Item) (i : Nat) : Prop := ilt (g l i) (g l ((i - 1) / 2)) = false
theorem badAt_ok {l : List Item} {i : Nat} (h : i < l.length) : badAt l i = false ↔ okAt l i := by
  unfold badAt okAt
  rw [g_at h, g_at (by omega)]
def Heap (l : List Item) : Prop := ∀ i, 0 < i → i < l.length → okAt l i
theorem heapB_heap {l : List Item} : heapB l = true ↔ Heap l := by
  rw [heapB_iff]
  exact ⟨fun h i h0 hi => (badAt_ok hi).mp (h i h0 hi), fun h i h0 hi => (badAt_ok hi).mpr (h i h0 hi)⟩
theorem swapL_perm (l : List Item) (i f : Nat) : swapL l i f ~ l := by
  unfold swapL
  split
  · rename_i x y hx hy
    obtain ⟨h1, rfl⟩ := List.getElem?_eq_some_iff.mp hx
    obtain ⟨h2, rfl⟩ := List.getElem?_eq_some_iff.mp hy
    exact List.set_set_perm h1 h2
  · exact Perm.refl _
theorem upL_perm (l : List Item) (i : Nat) : upL l i ~ l := by
  induction i using Nat.strongRecOn generalizing l with
  | _ i ih =>
    unfold upL
    split
    · rename_i h
      split
      · rename_i x y hx hy
        split
        · refine (ih ((i - 1) / 2) (by omega) _).trans ?_
          have := swapL_perm l i ((i - 1) / 2)
          rw [swapL_at hx hy] at this
          exact this
        · exact Perm.refl _
      · exact Perm.refl _
    · exact Perm.refl _
theorem downF_perm : ∀ (n : Nat) (l : List Item) (i : Nat), downF n l i ~ l
  | 0, l, i => Perm.refl _
  | n + 1, l, i => by
    simp only [downF]
    split
    · exact Perm.refl _
    · exact (downF_perm n _ _).trans (swapL_perm _ _ _)
theorem downL_perm (l : List Item) (i : Nat) : downL l i ~ l := downF_perm _ _ _
theorem buildF_perm : ∀ (k : Nat) (l : List Item), buildF k l ~ l
  | 0, l => Perm.refl _
  | k + 1, l => (buildF_perm k _).trans (downL_perm _ _)
theorem buildL_perm (l : List Item) : buildL l ~ l := buildF_perm _ _
theorem set_perm {m : List Item} {i : Nat} {y : Item} (h : i < m.length) : m.set i y ~ y :: m.eraseIdx i := by
  rw [List.set_eq_take_append_cons_drop, if_pos h, List.eraseIdx_eq_take_drop_succ]
  exact perm_middle
theorem erase_perm {m : List Item} {i : Nat} {x : Item} (h : m[i]? = some x) : m ~ x :: m.eraseIdx i := by
  obtain ⟨h1, rfl⟩ := List.getElem?_eq_some_iff.mp h
  have := set_perm (m := m) (i := i) (y := m[i]) h1
  rwa [List.set_getElem_self] at this
theorem last_split {l : List Item} (h : 0 < l.length) : l = l.take (l.length - 1) ++ [g l (l.length - 1)] := by
  have h1 := List.take_append_drop (l.length - 1) l
  have h2 : l.drop (l.length - 1) = [g l (l.length - 1)] := by
    rw [List.drop_eq_getElem_cons (by omega), List.drop_eq_nil_of_le (by omega)]
    congr 1
    have := g_at (l := l) (i := l.length - 1) (by omega)
    rw [List.getElem?_eq_getElem (by omega)] at this
    simpa using this
  rw [h2] at h1
  exact h1.symm
theorem moved_perm {l : List Item} {i : Nat} (hi : i < l.length) : (l.set i (g l (l.length - 1))).take (l.length - 1) ~ l.eraseIdx i := by
  have hs := last_split (l := l) (by omega)
  generalize hm : l.take (l.length - 1) = m at hs
  generalize g l (l.length - 1) = y at hs ⊢
  have hml : m.length = l.length - 1 := by rw [← hm, List.length_take]; omega
  rw [← hml]
  by_cases h : i < m.length
  · rw [hs, List.set_append_left _ _ h, List.take_left' (by simp), List.eraseIdx_append_of_lt_length h]
    exact (set_perm h).trans (perm_append_singleton _ _).symm
  · have e : i = m.length := by omega
    subst e
    rw [hs, List.set_append_right _ _ (Nat.le_refl _), List.take_left, List.eraseIdx_append_of_length_le (Nat.le_refl _)]
    simp
theorem withoutL_perm {l : List Item} {i : Nat} (hi : i < l.length) : withoutL l i ~ l.eraseIdx i := by
  unfold withoutL
  rw [g_at (by omega)]
  simp only
  split
  · exact ((upL_perm _ _).trans (downL_perm _ _)).trans (moved_perm hi)
  · exact moved_perm hi
/-! ### order -/
theorem upL_heap : ∀ (i : Nat) (l : List Item), i < l.length → (∀ j, 0 < j → j < l.length → j ≠ i → okAt l j) → (0 < i → ∀ c, 0 < c → c < l.length → (c - 1) / 2 = i → ilt (g l c) (g l ((i - 1) / 2)) = false) → Heap (upL l i) := by
  intro i
  induction i using Nat.strongRecOn with
  | _ i ih =>
    intro l hi hok hch
    by_cases h0 : 0 < i
    · have ha : (i - 1) / 2 < l.length := by omega
      cases hlt : ilt (g l i) (g l ((i - 1) / 2)) with
      | false =>
        rw [upL_stop h0 (g_at hi) (g_at ha) hlt]
        intro j hj0 hj
        by_cases e : j = i
        · subst e; exact hlt
        · exact hok j hj0 hj e
      | true =>
        rw [upL_go h0 (g_at hi) (g_at ha) hlt]
        generalize hav : (i - 1) / 2 = a at *
        have hai : a < i := by omega
        have gs : ∀ j, g ((l.set i (g l a)).set a (g l i)) j = if j = a then g l i else if j = i then g l a else g l j := by
          intro j
          rw [g_set (by simp; exact ha), g_set hi]
          by_cases e1 : j = a
          · subst e1; simp
          · rw [if_neg (fun e => e1 e.symm), if_neg e1]
            by_cases e2 : j = i
            · subst e2; simp
            · rw [if_neg (fun e => e2 e.symm), if_neg e2]
        have hlen : ((l.set i (g l a)).set a (g l i)).length = l.length := by simp
        refine ih a hai _ (by rw [hlen]; exact ha) ?_ ?_
        · intro j hj0 hj hja
          rw [hlen] at hj
          unfold okAt
          rw [gs, gs, if_neg hja]
          by_cases e1 : j = i
          · subst e1
            rw [if_pos rfl, hav, if_pos rfl]
            exact ilt_asym hlt
          · rw [if_neg e1]
            by_cases e2 : (j - 1) / 2 = a
            · rw [if_pos e2]
              have h1 := hok j hj0 hj e1
              unfold okAt at h1
              rw [e2] at h1
              exact nlt_trans (ilt_asym hlt) h1
            · rw [if_neg e2]
              by_cases e3 : (j - 1) / 2 = i
              · rw [if_pos e3]
                exact hch h0 j hj0 hj e3
              · rw [if_neg e3]
                exact hok j hj0 hj e1
        · intro ha0 c hc0 hc hca
          rw [hlen] at hc
          have hoka := hok a ha0 ha (by omega)
          unfold okAt at hoka
          rw [gs, gs, if_neg (show (a - 1) / 2 ≠ a by omega), if_neg (show (a - 1) / 2 ≠ i by omega), if_neg (show c ≠ a by omega)]
          by_cases e1 : c = i
          · rw [if_pos e1]
            exact hoka
          · rw [if_neg e1]
            have h1 := hok c hc0 hc e1
            unfold okAt at h1
            rw [hca] at h1
            exact nlt_trans hoka h1
    · have e : i = 0 := by omega
      subst e
      rw [upL_zero]
      intro j hj0 hj
      exact hok j hj0 hj (by omega)
theorem lessAt_g {l : List Item} {a b : Nat} (ha : a < l.length) (hb : b < l.length) : lessAt l a b = ilt (g l a) (g l b) := lessAt_at (g_at ha) (g_at hb)
/-- Which of a thing and those below it comes first. -/
theorem firstL_spec {l : List Item} {k : Nat} (hk : k < l.length) : (firstL l k = k ∧ ∀ c, 0 < c → c < l.length → (c - 1) / 2 = k → ilt (g l c) (g l k) = false) ∨
    (∃ f, firstL l k = f ∧ k < f ∧ f < l.length ∧ (f - 1) / 2 = k ∧ ilt (g l f) (g l k) = true ∧ ∀ c, 0 < c → c < l.length → (c - 1) / 2 = k → ilt (g l c) (g l f) = false) := by
  have ch : ∀ c, 0 < c → (c - 1) / 2 = k → c = 2 * k + 1 ∨ c = 2 * k + 2 := by intro c h0 h; omega
  unfold firstL
  by_cases h1 : 2 * k + 1 < l.length
  · cases e1 : ilt (g l (2 * k + 1)) (g l k) with
    | true =>
      have f1 : first1 l k = 2 * k + 1 := by unfold first1; rw [lessAt_g h1 hk, e1]; rfl
      rw [f1]
      by_cases h2 : 2 * k + 2 < l.length
      · rw [lessAt_g h2 h1]
        cases e2 : ilt (g l (2 * k + 2)) (g l (2 * k + 1)) with
        | true =>
          rw [if_pos rfl]
          refine .inr ⟨_, rfl, by omega, h2, by omega, ilt_trans e2 e1, fun c h0 hc hck => ?_⟩
          rcases ch c h0 hck with rfl | rfl
          · exact ilt_asym e2
          · exact ilt_irrefl _
        | false =>
          rw [if_neg (by simp)]
          refine .inr ⟨_, rfl, by omega, h1, by omega, e1, fun c h0 hc hck => ?_⟩
          rcases ch c h0 hck with rfl | rfl
          · exact ilt_irrefl _
          · exact e2
      · rw [lessAt_out (by omega)]
        refine .inr ⟨2 * k + 1, rfl, by omega, h1, by omega, e1, fun c h0 hc hck => ?_⟩
        rcases ch c h0 hck with rfl | rfl
        · exact ilt_irrefl _
        · omega
    | false =>
      have f1 : first1 l k = k := by unfold first1; rw [lessAt_g h1 hk, e1]; rfl
      rw [f1]
      by_cases h2 : 2 * k + 2 < l.length
      · rw [lessAt_g h2 hk]
        cases e2 : ilt (g l (2 * k + 2)) (g l k) with
        | true =>
          rw [if_pos rfl]
          refine .inr ⟨_, rfl, by omega, h2, by omega, e2, fun c h0 hc hck => ?_⟩
          rcases ch c h0 hck with rfl | rfl
          · exact nlt_trans (ilt_asym e2) e1
          · exact ilt_irrefl _
        | false =>
          rw [if_neg (by simp)]
          refine .inl ⟨rfl, fun c h0 hc hck => ?_⟩
          rcases ch c h0 hck with rfl | rfl
          · exact e1
          · exact e2
      · rw [lessAt_out (by omega)]
        refine .inl ⟨rfl, fun c h0 hc hck => ?_⟩
        rcases ch c h0 hck with rfl | rfl
        · exact e1
        · omega
  · have f1 : first1 l k = k := by unfold first1; rw [lessAt_out (by omega)]; rfl
    rw [f1, lessAt_out (by omega)]
    refine .inl ⟨rfl, fun c h0 hc hck => ?_⟩
    rcases ch c h0 hck with rfl | rfl <;> omega
theorem downF_heap (m : Nat) : ∀ (f : Nat) (l : List Item) (k : Nat), k < l.length → l.length ≤ k + f → m ≤ k → (∀ j, 0 < j → j < l.length → m ≤ (j - 1) / 2 → (j - 1) / 2 ≠ k → okAt l j) →
    (0 < k → m ≤ (k - 1) / 2 → ∀ c, 0 < c → c < l.length → (c - 1) / 2 = k → ilt (g l c) (g l ((k - 1) / 2)) = false) → ∀ j, 0 < j → j < l.length → m ≤ (j - 1) / 2 → okAt (downF f l k) j
  | 0, l, k, hk, hf, _, _, _, j, _, _, _ => by omega
  | f + 1, l, k, hk, hf, hmk, hok, hch, j, hj0, hj, hjm => by
    rcases firstL_spec hk with ⟨h1, h2⟩ | ⟨c, h1, h2, h3, h4, h5, h6⟩
    · simp only [downF, h1, if_true]
      by_cases e : (j - 1) / 2 = k
      · unfold okAt; rw [e]; exact h2 j hj0 hj e
      · exact hok j hj0 hj hjm e
    · have hne : ¬ c = k := by omega
      simp only [downF, h1]
      rw [if_neg hne, swapL_at (g_at hk) (g_at h3)]
      have gs : ∀ j, g ((l.set k (g l c)).set c (g l k)) j = if j = c then g l k else if j = k then g l c else g l j := by
        intro j
        rw [g_set (by simp; exact h3), g_set hk]
        by_cases e1 : j = c
        · subst e1; simp
        · rw [if_neg (fun e => e1 e.symm), if_neg e1]
          by_cases e2 : j = k
          · subst e2; simp
          · rw [if_neg (fun e => e2 e.symm), if_neg e2]
      have hlen : ((l.set k (g l c)).set c (g l k)).length = l.length := by simp
      refine downF_heap m f _ c (by rw [hlen]; exact h3) (by rw [hlen]; omega) (by omega) ?_ ?_ j hj0 (by rw [hlen]; exact hj) hjm
      · intro j hj0 hj hjm hjc
        rw [hlen] at hj
        unfold okAt
        rw [gs, gs]
        rw [if_neg hjc]
        by_cases e1 : (j - 1) / 2 = k
        · rw [if_pos e1]
          by_cases e2 : j = c
          · rw [if_pos e2]; exact ilt_asym h5
          · rw [if_neg e2, if_neg (by omega)]
            exact h6 j hj0 hj e1
        · rw [if_neg e1]
          have hjc' : j ≠ c := fun e => by subst e; exact e1 h4
          rw [if_neg hjc']
          by_cases e2 : j = k
          · rw [if_pos e2]
            subst e2
            exact hch hj0 hjm c (by omega) h3 h4
          · rw [if_neg e2]
            exact hok j hj0 hj hjm e1
      · intro _ _ d hd0 hd hdc
        rw [hlen] at hd
        rw [gs, gs, if_neg (show d ≠ c by omega), if_neg (show d ≠ k by omega), h4, if_neg (fun e => hne e.symm), if_pos rfl]
        have := hok d hd0 hd (by omega) (by omega)
        unfold okAt at this
        rw [hdc] at this
        exact this
theorem downL_from {l : List Item} {i : Nat} (hi : i < l.length) (h : ∀ j, 0 < j → j < l.length → i + 1 ≤ (j - 1) / 2 → okAt l j) : ∀ j, 0 < j → j < l.length → i ≤ (j - 1) / 2 → okAt (downL l i) j :=
  downF_heap i l.length l i hi (by omega) (Nat.le_refl _) (fun j h0 hj hm hne => h j h0 hj (by omega)) (fun h0 hm => by omega)
theorem buildF_heap : ∀ (k : Nat) (l : List Item), k ≤ l.length → (∀ j, 0 < j → j < l.length → k ≤ (j - 1) / 2 → okAt l j) → Heap (buildF k l)
  | 0, l, _, h => fun j h0 hj => h j h0 hj (Nat.zero_le _)
  | k + 1, l, hk, h => by
    refine buildF_heap k (downL l k) (by rw [downL_length]; omega) fun j h0 hj hm => ?_
    rw [downL_length] at hj
    exact downL_from (by omega) h j h0 hj hm
theorem buildL_heap (l : List Item) : Heap (buildL l) := buildF_heap _ l (by omega) fun j h0 hj hm => by omega
theorem withoutL_heap {l : List Item} {i : Nat} (h : Heap l) (hi : i < l.length) : Heap (withoutL l i) := by
  unfold withoutL
  rw [g_at (by omega)]
  simp only
  generalize hy : g l (l.length - 1) = y
  have gm : ∀ j, j < l.length - 1 → g ((l.set i y).take (l.length - 1)) j = if j = i then y else g l j := by
    intro j hj
    have : ((l.set i y).take (l.length - 1))[j]? = some (if j = i then y else g l j) := by
      rw [List.getElem?_take, if_pos hj, List.getElem?_set]
      by_cases e : i = j
      · subst e; simp [hi]
      · rw [if_neg e, if_neg (fun e' => e e'.symm)]
        exact g_at (by omega)
    exact g_of this
  have hlen : ((l.set i y).take (l.length - 1)).length = l.length - 1 := by simp
  generalize hm : (l.set i y).take (l.length - 1) = m at *
  split
  · rename_i hil
    -- all but i and those below it
    have hother : ∀ j, 0 < j → j < m.length → j ≠ i → (j - 1) / 2 ≠ i → okAt m j := by
      intro j h0 hj h1 h2
      rw [hlen] at hj
      unfold okAt
      rw [gm j hj, gm _ (by omega), if_neg h1, if_neg h2]
      exact h j h0 (by omega)
    by_cases hup : 0 < i ∧ ilt y (g l ((i - 1) / 2)) = true
    · -- it goes up
      obtain ⟨h0, hlt⟩ := hup
      have hpi := h i h0 hi
      unfold okAt at hpi
      have hch : ∀ c, 0 < c → c < m.length → (c - 1) / 2 = i → ilt (g m c) (g l ((i - 1) / 2)) = false := by
        intro c hc0 hc hci
        rw [hlen] at hc
        rw [gm c hc, if_neg (by omega)]
        have := h c hc0 (by omega)
        unfold okAt at this
        rw [hci] at this
        exact nlt_trans hpi this
      have hchy : ∀ c, 0 < c → c < m.length → (c - 1) / 2 = i → ilt (g m c) y = false := fun c h1 h2 h3 => nlt_trans (ilt_asym hlt) (hch c h1 h2 h3)
      have hdown : downL m i = m := by
        have hil' : i < m.length := by omega
        unfold downL
        obtain ⟨n, hn⟩ : ∃ n, m.length = n + 1 := ⟨m.length - 1, by omega⟩
        rw [hn]
        rcases firstL_spec hil' with ⟨h1, _⟩ | ⟨c, h1, h2, h3, h4, h5, h6⟩
        · simp only [downF, h1, if_true]
        · exfalso
          have e := hchy c (by omega) h3 h4
          have e2 : g m i = y := by rw [gm i (by omega), if_pos rfl]
          rw [e2, e] at h5
          cases h5
      rw [hdown]
      refine upL_heap i m (by omega) (fun j hj0 hj hji => ?_) (fun _ c hc0 hc hci => ?_)
      · by_cases e : (j - 1) / 2 = i
        · unfold okAt
          rw [e, gm i (by omega), if_pos rfl]
          exact hchy j hj0 hj e
        · exact hother j hj0 hj hji e
      · rw [gm ((i - 1) / 2) (by omega), if_neg (by omega)]
        exact hch c hc0 hc hci
    · -- it goes down
      have hoki : 0 < i → okAt m i := by
        intro h0
        unfold okAt
        rw [gm i (by omega), if_pos rfl, gm _ (by omega), if_neg (by omega)]
        cases e : ilt y (g l ((i - 1) / 2))
        · rfl
        · exact absurd ⟨h0, e⟩ hup
      have hd : Heap (downL m i) := by
        intro j hj0 hj
        rw [downL_length] at hj
        refine downF_heap 0 m.length m i (by omega) (by omega) (Nat.zero_le _) (fun j h0 hj _ hne => ?_) (fun h0 _ c hc0 hc hci => ?_) j hj0 hj (Nat.zero_le _)
        · by_cases e : j = i
          · subst e; exact hoki h0
          · exact hother j h0 hj e hne
        · rw [hlen] at hc
          rw [gm c hc, if_neg (by omega), gm _ (by omega), if_neg (by omega)]
          have h1 := h i h0 hi
          have h2 := h c hc0 (by omega)
          unfold okAt at h1 h2
          rw [hci] at h2
          exact nlt_trans h1 h2
      refine upL_heap i _ (by rw [downL_length]; omega) (fun j h0 hj _ => hd j h0 hj) (fun h0 c hc0 hc hci => ?_)
      have h1 := hd c hc0 hc
      have h2 := hd i h0 (by rw [downL_length]; omega)
      unfold okAt at h1 h2
      rw [hci] at h1
      exact nlt_trans h2 h1
  · rename_i hil
    intro j h0 hj
    rw [hlen] at hj
    unfold okAt
    rw [gm j hj, gm _ (by omega), if_neg (by omega), if_neg (by omega)]
    exact h j h0 (by omega)
/-! ### sorted -/
def Sorted (l : List Item) : Prop := l.Pairwise fun x y => ilt y x = false
theorem putL_perm (l : List Item) (x : Item) : putL l x ~ x :: l := by
  unfold putL
  have := List.takeWhile_append_dropWhile (p := fun y => !ilt x y) (l := l)
  conv => rhs; rw [← this]
  exact perm_middle
theorem foldl_putL_perm : ∀ (l m : List Item), l.foldl putL m ~ l ++ m
  | [], m => Perm.refl _
  | x :: l, m => by
    rw [List.foldl_cons]
    refine (foldl_putL_perm l _).trans ?_
    refine ((putL_perm m x).append_left l).trans ?_
    exact perm_middle
theorem sortL_perm (l : List Item) : sortL l ~ l := by have := foldl_putL_perm l []; rwa [List.append_nil] at this
theorem putL_sorted {l : List Item} (h : Sorted l) (x : Item) : Sorted (putL l x) := by
  induction l with
  | nil => unfold putL Sorted; simp
  | cons y l ih =>
    unfold Sorted at h
    rw [List.pairwise_cons] at h
    unfold putL
    cases hxy : ilt x y with
    | true =>
      rw [List.takeWhile_cons, List.dropWhile_cons]
      simp only [hxy, Bool.not_true, Bool.false_eq_true, if_false, List.nil_append]
      unfold Sorted
      rw [List.pairwise_cons, List.pairwise_cons]
      refine ⟨fun z hz => ?_, h⟩
      rcases List.mem_cons.mp hz with rfl | hz
      · exact ilt_asym hxy
      · exact nlt_trans (ilt_asym hxy) (h.1 z hz)
    | false =>
      rw [List.takeWhile_cons, List.dropWhile_cons]
      simp only [hxy, Bool.not_false, if_true, List.cons_append]
      have ih' := ih h.2
      unfold putL at ih'
      unfold Sorted at ih' ⊢
      rw [List.pairwise_cons]
      refine ⟨fun z hz => ?_, ih'⟩
      have hz' : z ∈ x :: l := (putL_perm l x).mem_iff.mp hz
      rcases List.mem_cons.mp hz' with rfl | hz'
      · exact hxy
      · exact h.1 z hz'
theorem foldl_putL_sorted : ∀ (l m : List Item), Sorted m → Sorted (l.foldl putL m)
  | [], m, h => h
  | x :: l, m, h => by rw [List.foldl_cons]; exact foldl_putL_sorted l _ (putL_sorted h x)
theorem sortL_sorted (l : List Item) : Sorted (sortL l) := foldl_putL_sorted l [] .nil
theorem sorted_eq {l m : List Item} (h : Sorted l) (k : Sorted m) (hp : l ~ m) : l = m := Perm.eq_of_pairwise (le := fun x y => ilt y x = false) (fun a b _ _ h1 h2 => ilt_total h2 h1) h k hp
theorem sortL_congr {l m : List Item} (h : l ~ m) : sortL l = sortL m := sorted_eq (sortL_sorted l) (sortL_sorted m) (((sortL_perm l).trans h).trans (sortL_perm m).symm)
/-! ### what has a number -/
theorem takeF_spec (l : List Item) (q : Int) : ∀ k, k ≤ l.length → (takeF l q k < 0 ∧ ∀ i, i < k → ((g l i).s == q) = false) ∨
    (∃ a : Nat, takeF l q k = (a : Int) ∧ a < k ∧ (g l a).s = q ∧ ∀ i, i < k → (g l i).s = q → ilt (g l i) (g l a) = false)
  | 0, _ => .inl ⟨by simp [takeF], fun i h => by omega⟩
  | k + 1, hk => by
    have ih := takeF_spec l q k (by omega)
    have hx := g_at (l := l) (i := k) (by omega)
    cases hq : (g l k).s == q with
    | false =>
      have e : takeF l q (k + 1) = takeF l q k := by simp only [takeF, hx, hq, Bool.false_and]; rfl
      rw [e]
      have hqn : (g l k).s ≠ q := by simpa using hq
      rcases ih with ⟨h1, h2⟩ | ⟨a, h1, h2, h3, h4⟩
      · exact .inl ⟨h1, fun i hi => by
          by_cases ei : i = k
          · subst ei; exact hq
          · exact h2 i (by omega)⟩
      · exact .inr ⟨a, h1, by omega, h3, fun i hi hiq => by
          by_cases ei : i = k
          · subst ei; exact absurd hiq hqn
          · exact h4 i (by omega) hiq⟩
    | true =>
      have hqe : (g l k).s = q := by simpa using hq
      rcases ih with ⟨h1, h2⟩ | ⟨a, h1, h2, h3, h4⟩
      · have e : takeF l q (k + 1) = (k : Int) := by simp only [takeF, hx, hq, decide_eq_true h1]; rfl
        refine .inr ⟨k, e, by omega, hqe, fun i hi hiq => ?_⟩
        by_cases ei : i = k
        · subst ei; exact ilt_irrefl _
        · have := h2 i (by omega); rw [hiq] at this; simp at this
      · have hnn : ¬ takeF l q k < 0 := by omega
        have e : takeF l q (k + 1) = if ilt (g l k) (g l a) then (k : Int) else (a : Int) := by
          simp only [takeF, hx, hq, decide_eq_false hnn, h1, Int.toNat_natCast, g_at (l := l) (i := a) (by omega)]
          rfl
        cases hlt : ilt (g l k) (g l a) with
        | true =>
          rw [hlt, if_pos rfl] at e
          refine .inr ⟨k, e, by omega, hqe, fun i hi hiq => ?_⟩
          by_cases ei : i = k
          · subst ei; exact ilt_irrefl _
          · exact nlt_trans (ilt_asym hlt) (h4 i (by omega) hiq)
        | false =>
          rw [hlt, if_neg (by simp)] at e
          refine .inr ⟨a, e, by omega, h3, fun i hi hiq => ?_⟩
          by_cases ei : i = k
          · subst ei; exact hlt
          · exact h4 i (by omega) hiq
end Go.Det.Q

/- What pushes, pops and takes come to, in one form. -/
namespace Go.Det.Q
open Go Go.Det Go.Proofs
set_option maxRecDepth 4000
set_option maxHeartbeats 4000000
set_option linter.unusedVariables false
set_option linter.unusedSimpArgs false
def zeroI : Item := ⟨0, 0, 0, 0, 0, 0⟩
theorem nilF (A H : DH) : ItsF A H (.sl none 0 0 true) [] := ⟨none, 0, true, rfl, .nil0 H, fun _ _ _ h => (by cases h)⟩
def pushE (l : List Item) : Int := if checkB l = true then (if l.length = 4096 then 7 else 0) else 1
def pushV (l : List Item) (x : Item) : List Item := if pushE l = 0 then upL (l ++ [x]) l.length else []
def takeE (l : List Item) (q : Int) : Int := if checkB l = true then (if takeF l q l.length < 0 then 8 else 0) else 1
def takeX (l : List Item) (q : Int) : Item := if takeE l q = 0 then g l (takeF l q l.length).toNat else zeroI
def takeV (l : List Item) (q : Int) : List Item := if takeE l q = 0 then withoutL l (takeF l q l.length).toNat else []
theorem pushE_bad {l : List Item} (h : checkB l = false) : pushE l = 1 := by simp [pushE, h]
theorem pushE_full {l : List Item} (h : checkB l = true) (k : l.length = 4096) : pushE l = 7 := by simp [pushE, h, k]
theorem pushE_ok {l : List Item} (h : checkB l = true) (k : l.length ≠ 4096) : pushE l = 0 := by simp [pushE, h, k]
theorem takeE_bad {l : List Item} {q : Int} (h : checkB l = false) : takeE l q = 1 := by simp [takeE, h]
theorem takeE_none {l : List Item} {q : Int} (h : checkB l = true) (k : takeF l q l.length < 0) : takeE l q = 8 := by simp [takeE, h, k]
theorem takeE_ok {l : List Item} {q : Int} (h : checkB l = true) (k : ¬ takeF l q l.length < 0) : takeE l q = 0 := by simp [takeE, h, k]
theorem checkB_heap {l : List Item} : checkB l = true ↔ Heap l ∧ l.length ≤ 4096 := by
  unfold checkB
  rw [Bool.and_eq_true, heapB_heap, decide_eq_true_eq]
section
variable {H : DH} {s : DV} {l : List Item}
theorem push_c (x : Item) (h : Its H s l) (hn : l.length ≤ 1000000) : CallWp Try.prog X4 16 [s, .agg x.cells] H (fun r H' => Above H H' ∧ ∃ s', r = .tuple [s', .int .i64 (pushE l)] ∧ ItsF H H' s' (pushV l x)) := by
  obtain ⟨p, c, ex, rfl, hl⟩ := h
  refine (push16 H p c ex l x hl hn).mono ?_
  rintro r H' ⟨hab, ⟨h1, rfl⟩ | ⟨h1, h2, rfl⟩ | ⟨h1, h2, s', rfl, h3⟩⟩
  · exact ⟨hab, _, by rw [pushE_bad h1], by unfold pushV; rw [pushE_bad h1]; exact nilF _ _⟩
  · exact ⟨hab, _, by rw [pushE_full h1 h2], by unfold pushV; rw [pushE_full h1 h2]; exact nilF _ _⟩
  · exact ⟨hab, s', by rw [pushE_ok h1 h2], by unfold pushV; rw [pushE_ok h1 h2]; exact h3⟩
theorem take_c (q : Int) (h : Its H s l) (hn : l.length ≤ 1000000) : CallWp Try.prog X4 28 [s, .int .u64 q] H (fun r H' => Above H H' ∧ ∃ s', r = .tuple [.agg (takeX l q).cells, s', .int .i64 (takeE l q)] ∧ ItsF H H' s' (takeV l q)) := by
  obtain ⟨p, c, ex, rfl, hl⟩ := h
  refine (take28 H p c ex l q hl hn).mono ?_
  rintro r H' ⟨hab, ⟨h1, rfl⟩ | ⟨h1, h2, rfl⟩ | ⟨h1, k, x, s', h2, h3, rfl, h4⟩⟩
  · exact ⟨hab, _, by unfold takeX; rw [takeE_bad h1]; rfl, by unfold takeV; rw [takeE_bad h1]; exact nilF _ _⟩
  · exact ⟨hab, _, by unfold takeX; rw [takeE_none h1 h2]; rfl, by unfold takeV; rw [takeE_none h1 h2]; exact nilF _ _⟩
  · have hne : ¬ takeF l q l.length < 0 := by omega
    have e : (takeF l q l.length).toNat = k := by rw [h2]; simp
    exact ⟨hab, s', by unfold takeX; rw [takeE_ok h1 hne, if_pos rfl, e, g_of h3], by unfold takeV; rw [takeE_ok h1 hne, e]; exact h4⟩
theorem build_c (h : Its H s l) (hn : l.length ≤ 4096) : CallWp Try.prog X4 24 [s] H (fun r H' => Above H H' ∧ ∃ s', r = .tuple [s', .int .i64 0] ∧ ItsF H H' s' (buildL l)) := by
  obtain ⟨p, c, ex, rfl, hl⟩ := h
  refine (build24 H p c ex l hl (by omega)).mono ?_
  rintro r H' ⟨hab, ⟨h1, rfl⟩ | ⟨h1, s', rfl, h3⟩⟩
  · omega
  · exact ⟨hab, s', rfl, h3⟩
theorem sorted_c (h : Its H s l) (hn : l.length ≤ 1000000) : CallWp Try.prog X4 22 [s] H (fun r H' => Above H H' ∧ ItsF H H' r (sortL l)) := by
  obtain ⟨p, c, ex, rfl, hl⟩ := h
  exact sorted22 H p c ex l hl hn
theorem is_c {t : DV} {m : List Item} (h : Its H s l) (k : Its H t m) (hn : l.length ≤ 1000000) : CallWp Try.prog X4 25 [s, t] H (fun r H' => Above H H' ∧ r = .bool (checkB l && decide (sortL l = m))) := by
  obtain ⟨p, c, ex, rfl, hl⟩ := h
  obtain ⟨p', c', ex', rfl, hm⟩ := k
  exact is25 H p p' c c' ex ex' l m hl hm hn
end
/-! ### what the laws ask -/
theorem pushV_perm {l : List Item} {x : Item} (h : pushE l = 0) : List.Perm (pushV l x) (x :: l) := by unfold pushV; rw [if_pos h]; exact (upL_perm _ _).trans (List.perm_append_singleton _ _)
theorem takeE_zero {l : List Item} {q : Int} (h : takeE l q = 0) : Heap l ∧ l.length ≤ 4096 ∧ ∃ a : Nat, takeF l q l.length = (a : Int) ∧ a < l.length ∧ (g l a).s = q := by
  unfold takeE at h
  split at h
  · rename_i hc
    split at h
    · simp at h
    · rename_i hne
      have := checkB_heap.mp hc
      refine ⟨this.1, this.2, ?_⟩
      rcases takeF_spec l q l.length (Nat.le_refl _) with ⟨h, _⟩ | ⟨a, h5, h6, h7, h8⟩
      · exact absurd h hne
      · exact ⟨a, h5, h6, h7⟩
  · simp at h
end Go.Det.Q

/- Arguments. -/
namespace Go.Det.Q
open Go Go.Det Go.Proofs
set_option maxRecDepth 4000
set_option linter.unusedVariables false
set_option linter.unusedSimpArgs false
def i64ok (x : Int) : Prop := -9223372036854775808 ≤ x ∧ x ≤ 9223372036854775807
def u64ok (x : Int) : Prop := 0 ≤ x ∧ x ≤ 18446744073709551615
theorem i64_of {x : Int} (h : (Lit.int .i64 x).wf = true) : i64ok x := by
  simp [Lit.wf, IntKind.min, IntKind.max, IntKind.signed, IntKind.bits] at h
  exact h
theorem u64_of {x : Int} (h : (Lit.int .u64 x).wf = true) : u64ok x := by
  simp [Lit.wf, IntKind.min, IntKind.max, IntKind.signed, IntKind.bits] at h
  unfold u64ok
  omega
structure Item.ok (x : Item) : Prop where
  a : i64ok x.a
  c : i64ok x.c
  s : u64ok x.s
  w : i64ok x.w
  h : i64ok x.h
  n : u64ok x.n
theorem item_in {H : DH} {cs : List DV} (h : Typed Try.prog H 26 cs) : ∃ x : Item, cs = x.cells ∧ x.ok := by
  obtain ⟨h1, h2⟩ := typed_struct (fs := _) Try.underlying26 h
  have hsz : Try.prog.cellsOf 26 = 6 := by kernel_rfl
  have c2 : Try.prog.cellsOf 2 = 1 := by kernel_rfl
  have c3 : Try.prog.cellsOf 3 = 1 := by kernel_rfl
  have c24 : Try.prog.cellsOf 24 = 1 := by kernel_rfl
  rw [hsz] at h1
  obtain ⟨x0, x1, x2, x3, x4, x5, rfl⟩ := len6 h1
  simp only [List.forall_mem_cons, c2, c3, c24, List.drop_zero, List.drop_succ_cons, List.take_succ_cons, List.take_zero] at h2
  obtain ⟨t0, t1, t2, t3, t4, t5, _⟩ := h2
  obtain ⟨a, e0, w0⟩ := typed_int Try.underlying2 t0
  obtain ⟨b, e1, w1⟩ := typed_int Try.underlying3 t1
  obtain ⟨c, e2, w2⟩ := typed_int Try.underlying24 t2
  obtain ⟨d, e3, w3⟩ := typed_int Try.underlying3 t3
  obtain ⟨e, e4, w4⟩ := typed_int Try.underlying3 t4
  obtain ⟨f, e5, w5⟩ := typed_int Try.underlying24 t5
  cases e0; cases e1; cases e2; cases e3; cases e4; cases e5
  exact ⟨⟨a, b, c, d, e, f⟩, rfl, ⟨i64_of w0, i64_of w1, u64_of w2, i64_of w3, i64_of w4, u64_of w5⟩⟩
theorem items_rows {H : DH} : ∀ (rs : List (List DV)), (∀ r ∈ rs, Typed Try.prog H 26 r) → ∃ l : List Item, rs = l.map Item.cells ∧ ∀ x ∈ l, x.ok
  | [], _ => ⟨[], rfl, fun a h => by cases h⟩
  | r :: rs, h => by
    obtain ⟨x, hx, hok⟩ := item_in (h r (by simp))
    obtain ⟨l, hl, hall⟩ := items_rows rs fun r' hr => h r' (by simp [hr])
    exact ⟨x :: l, by rw [hx, hl]; rfl, fun y hy => by
      rcases List.mem_cons.mp hy with rfl | hy
      · exact hok
      · exact hall y hy⟩
theorem items_typed {H : DH} (hw : WF H) {d : DV} (h' : Typed Try.prog H 23 [d]) : ∃ p c ex l, d = .sl p l.length c ex ∧ It H p c ex l ∧ ∀ x ∈ l, x.ok := by
  have hsz : Try.prog.cellsOf 26 = 6 := by kernel_rfl
  rcases typed_slice Try.underlying23 h' with h | ⟨l, n, rs, h, ho, hn, hm, hr⟩
  · cases h
    exact ⟨none, 0, true, [], rfl, .nil0 H, fun a ha => by cases ha⟩
  · rw [hsz] at h ho
    cases h
    obtain ⟨L, hL, hall⟩ := items_rows (rs.take n) (fun r hr' => by
      obtain ⟨i, hi, rfl⟩ := List.getElem_of_mem (List.mem_of_mem_take hr')
      exact hr i _ (List.getElem?_eq_getElem hi))
    have hlen : L.length = n := by
      have := congrArg List.length hL
      rw [List.length_map, List.length_take] at this
      omega
    exact ⟨some (l, 0, 6), rs.length, true, L, by rw [hlen], ⟨.at (hw _ _ ho) ho (by rw [List.length_map, hlen]; omega) (by rw [List.length_map, hlen, List.drop_zero, hL]), fun h => (by cases h), by rw [hlen]; omega, by rw [hlen]; exact hn⟩, hall⟩
theorem items_in {H : DH} (hw : WF H) {d : DV} (h : TArg Try.prog H 23 d) : ∃ p c ex l, d = .sl p l.length c ex ∧ It H p c ex l ∧ ∀ x ∈ l, x.ok :=
  items_typed hw (targ_one (by rw [Try.underlying23]; simp) (by rw [Try.underlying23]; simp) h)
theorem int_arg {H : DH} {d : DV} (h : TArg Try.prog H 3 d) : ∃ x, d = .int .i64 x ∧ i64ok x := by
  obtain ⟨x, e, hw⟩ := typed_int Try.underlying3 (targ_one (by rw [Try.underlying3]; simp) (by rw [Try.underlying3]; simp) h)
  cases e; exact ⟨x, rfl, i64_of hw⟩
end Go.Det.Q

/- HeapTakes: the law's own text. -/
namespace Go.Det.Q
open Go Go.Det Go.Proofs
set_option maxRecDepth 4000
set_option maxHeartbeats 4000000
set_option linter.unusedVariables false
set_option linter.unusedSimpArgs false
theorem modk (k0 : Int) (n : Nat) (h0 : 0 < n) (hn : n ≤ 4611686018427387904) : ∃ kk : Nat, kk < n ∧ (IntKind.i64.wrap (k0.tmod (n : Int) + (n : Int))).tmod (n : Int) = (kk : Int) := by
  have h1 : k0.tmod (n : Int) < (n : Int) := Int.tmod_lt_of_pos _ (by omega)
  have h2 : -(n : Int) < k0.tmod (n : Int) := Int.lt_tmod_of_pos _ (by omega)
  have hw : IntKind.i64.wrap (k0.tmod (n : Int) + (n : Int)) = k0.tmod (n : Int) + (n : Int) := by
    unfold IntKind.wrap
    simp [IntKind.signed, IntKind.bits]
    omega
  rw [hw, Int.tmod_eq_emod_of_nonneg (by omega)]
  have h3 := Int.emod_nonneg (k0.tmod (n : Int) + (n : Int)) (b := (n : Int)) (by omega)
  have h4 := Int.emod_lt_of_pos (k0.tmod (n : Int) + (n : Int)) (b := (n : Int)) (by omega)
  exact ⟨((k0.tmod (n : Int) + (n : Int)) % (n : Int)).toNat, by omega, by omega⟩
/-- What is taken by its number, and pushed again. -/
theorem takes (l : List Item) (y : Item) (hy : y ∈ l) (hn : l.length ≤ 100) : takeE (buildL l) y.s = 0 ∧ (takeX (buildL l) y.s).s = y.s ∧ (takeV (buildL l) y.s).length = l.length - 1 ∧ checkB (takeV (buildL l) y.s) = true ∧
    pushE (takeV (buildL l) y.s) = 0 ∧ List.Perm (pushV (takeV (buildL l) y.s) (takeX (buildL l) y.s)) l := by
  have hL := buildL_heap l
  have hp := buildL_perm l
  have hlen := hp.length_eq
  generalize buildL l = L at *
  have hck : checkB L = true := checkB_heap.mpr ⟨hL, by omega⟩
  have hf : ¬ takeF L y.s L.length < 0 := by
    intro h
    rcases takeF_spec L y.s L.length (Nat.le_refl _) with ⟨_, h2⟩ | ⟨a, h1, _⟩
    · obtain ⟨i, hi, he⟩ := List.getElem_of_mem (hp.mem_iff.mpr hy)
      have := h2 i hi
      rw [g_of (List.getElem?_eq_getElem hi), he] at this
      simp at this
    · omega
  have hE := takeE_ok hck hf
  obtain ⟨_, _, a, h3, h4, h5⟩ := takeE_zero hE
  have hX : takeX L y.s = g L a := by unfold takeX; rw [if_pos hE, h3, Int.toNat_natCast]
  have hV : takeV L y.s = withoutL L a := by unfold takeV; rw [if_pos hE, h3, Int.toNat_natCast]
  have hVl : (withoutL L a).length = L.length - 1 := withoutL_length (by omega)
  have hVc : checkB (withoutL L a) = true := checkB_heap.mpr ⟨withoutL_heap hL h4, by omega⟩
  have hP : pushE (withoutL L a) = 0 := pushE_ok hVc (by omega)
  rw [hX, hV]
  refine ⟨hE, h5, by omega, hVc, hP, ?_⟩
  exact (pushV_perm hP).trans ((((withoutL_perm h4).cons _).trans (erase_perm (g_at h4)).symm).trans hp)
theorem law6 (H : DH) (p : Option (Nat × Nat × Nat)) (c : Nat) (ex : Bool) (l : List Item) (k0 : Int) (hl : It H p c ex l) :
    CallWp Try.prog X4 6 [.sl p l.length c ex, .int .i64 k0] H (fun r H' => r = .bool true) := by
  by_cases h1 : decide ((l.length : Int) > 100) = true
  · skip
    refine enter rfl Try.func6 rfl Try.ntmps6 rfl ?_
    dsimp only [List.cons_append, List.nil_append, List.length_cons, List.length_nil, List.replicate_succ, List.replicate_zero, Nat.reduceAdd, Nat.reduceSub]
    repeat' (first
      | dsimp only [putD, DV.cells, DH.new_next, DH.set_next, List.length_cons, List.length_nil, Nat.reduceAdd, List.set_cons_zero, List.set_cons_succ, getD_zero, getD_succ, fieldAt_zero, fieldAt_succ, thenD, blockD, retR]
      | apply dwp_seq
      | apply dwp_region
      | apply ops_nil
      | (apply ops_plain; (· exact rfl))
      | (apply ops_on; (· exact rfl); (· exact rfl); (· (first | with_reducible assumption | with_reducible rfl | decide)))
      | (apply ops_off1; (· exact rfl); (· exact rfl); (· (first | with_reducible assumption | with_reducible rfl | decide)))
      | (apply ops_off0; (· exact rfl); (· exact rfl); (· (first | with_reducible assumption | with_reducible rfl | decide)))
      | (apply ops_offn; (· exact rfl); (· exact rfl))
      | (apply ops_split1; (· exact rfl); (· exact rfl); all_goals intro hb)
      | (apply ops_split0; (· exact rfl); (· exact rfl); all_goals intro hb)
      | (apply op_call; (· exact rfl); (· exact rfl); (· exact rfl); refine call_table (g := gLive) rfl rfl ?_)
      | (apply op_pick_t; (· exact rfl); (· exact rfl); (· (first | with_reducible assumption | with_reducible rfl | decide)); (· exact rfl))
      | (apply op_pick_f; (· exact rfl); (· exact rfl); (· (first | with_reducible assumption | with_reducible rfl | decide)); (· exact rfl))
      | (apply op_load_at; (· exact rfl); (· exact rfl); (· repeat (first | with_reducible assumption | (with_reducible apply obj_here; with_reducible rfl) | with_reducible apply obj_set | (with_reducible apply obj_skip_lo; (· ((repeat (first | with_reducible assumption | with_reducible apply Lo.self | with_reducible apply Lo.new | with_reducible apply Lo.set | with_reducible apply Lo.self1 | with_reducible apply Lo.self2)); done))) | (with_reducible apply obj_past; (· ((first | with_reducible assumption | with_reducible apply ne_add1 | with_reducible apply ne_add1' | with_reducible apply ne_add2 | with_reducible apply ne_add2' | with_reducible apply ne_add12 | with_reducible apply ne_add21 | (with_reducible apply Lo.ne; (repeat (first | with_reducible assumption | with_reducible apply Lo.self | with_reducible apply Lo.new | with_reducible apply Lo.set | with_reducible apply Lo.self1 | with_reducible apply Lo.self2)); done) | (with_reducible apply Lo.ne1; (repeat (first | with_reducible assumption | with_reducible apply Lo.self | with_reducible apply Lo.new | with_reducible apply Lo.set | with_reducible apply Lo.self1 | with_reducible apply Lo.self2)); done) | (with_reducible apply Lo.ne'; (repeat (first | with_reducible assumption | with_reducible apply Lo.self | with_reducible apply Lo.new | with_reducible apply Lo.set | with_reducible apply Lo.self1 | with_reducible apply Lo.self2)); done) | (with_reducible apply Lo.ne1'; (repeat (first | with_reducible assumption | with_reducible apply Lo.self | with_reducible apply Lo.new | with_reducible apply Lo.set | with_reducible apply Lo.self1 | with_reducible apply Lo.self2)); done)); done))))); (· exact rfl); (· exact rfl))
      | (apply op_store_at; (· exact rfl); (· exact rfl); (· exact rfl); (· repeat (first | with_reducible assumption | (with_reducible apply obj_here; with_reducible rfl) | with_reducible apply obj_set | (with_reducible apply obj_skip_lo; (· ((repeat (first | with_reducible assumption | with_reducible apply Lo.self | with_reducible apply Lo.new | with_reducible apply Lo.set | with_reducible apply Lo.self1 | with_reducible apply Lo.self2)); done))) | (with_reducible apply obj_past; (· ((first | with_reducible assumption | with_reducible apply ne_add1 | with_reducible apply ne_add1' | with_reducible apply ne_add2 | with_reducible apply ne_add2' | with_reducible apply ne_add12 | with_reducible apply ne_add21 | (with_reducible apply Lo.ne; (repeat (first | with_reducible assumption | with_reducible apply Lo.self | with_reducible apply Lo.new | with_reducible apply Lo.set | with_reducible apply Lo.self1 | with_reducible apply Lo.self2)); done) | (with_reducible apply Lo.ne1; (repeat (first | with_reducible assumption | with_reducible apply Lo.self | with_reducible apply Lo.new | with_reducible apply Lo.set | with_reducible apply Lo.self1 | with_reducible apply Lo.self2)); done) | (with_reducible apply Lo.ne'; (repeat (first | with_reducible assumption | with_reducible apply Lo.self | with_reducible apply Lo.new | with_reducible apply Lo.set | with_reducible apply Lo.self1 | with_reducible apply Lo.self2)); done) | (with_reducible apply Lo.ne1'; (repeat (first | with_reducible assumption | with_reducible apply Lo.self | with_reducible apply Lo.new | with_reducible apply Lo.set | with_reducible apply Lo.self1 | with_reducible apply Lo.self2)); done)); done))))); (· exact rfl); (· exact rfl); (· exact rfl))
      | (apply op_at; (· exact opD_eqb rfl rfl rfl rfl))
      | (apply op_at; (· exact opD_neqb rfl rfl rfl rfl))
      | (apply op_at; (· exact rfl))
      | (apply dwp_cond_t; (· exact rfl); (· (first | with_reducible assumption | with_reducible rfl | decide)))
      | (apply dwp_cond_f; (· exact rfl); (· (first | with_reducible assumption | with_reducible rfl | decide)))
      | (refine dwp_cond rfl ?_ ?_ <;> intro hb)
      | apply dwp_block
      | apply dwp_skip
      | apply dwp_ret
      | apply dwp_exit
      | (refine ⟨_, rfl, ?_⟩)
      | fail)
  · have h1' : decide ((l.length : Int) > 100) = false := by simpa using h1
    by_cases h2 : ((l.length : Int) == 0) = true
    · skip
      refine enter rfl Try.func6 rfl Try.ntmps6 rfl ?_
      dsimp only [List.cons_append, List.nil_append, List.length_cons, List.length_nil, List.replicate_succ, List.replicate_zero, Nat.reduceAdd, Nat.reduceSub]
      repeat' (first
        | dsimp only [putD, DV.cells, DH.new_next, DH.set_next, List.length_cons, List.length_nil, Nat.reduceAdd, List.set_cons_zero, List.set_cons_succ, getD_zero, getD_succ, fieldAt_zero, fieldAt_succ, thenD, blockD, retR]
        | apply dwp_seq
        | apply dwp_region
        | apply ops_nil
        | (apply ops_plain; (· exact rfl))
        | (apply ops_on; (· exact rfl); (· exact rfl); (· (first | with_reducible assumption | with_reducible rfl | decide)))
        | (apply ops_off1; (· exact rfl); (· exact rfl); (· (first | with_reducible assumption | with_reducible rfl | decide)))
        | (apply ops_off0; (· exact rfl); (· exact rfl); (· (first | with_reducible assumption | with_reducible rfl | decide)))
        | (apply ops_offn; (· exact rfl); (· exact rfl))
        | (apply ops_split1; (· exact rfl); (· exact rfl); all_goals intro hb)
        | (apply ops_split0; (· exact rfl); (· exact rfl); all_goals intro hb)
        | (apply op_call; (· exact rfl); (· exact rfl); (· exact rfl); refine call_table (g := gLive) rfl rfl ?_)
        | (apply op_pick_t; (· exact rfl); (· exact rfl); (· (first | with_reducible assumption | with_reducible rfl | decide)); (· exact rfl))
        | (apply op_pick_f; (· exact rfl); (· exact rfl); (· (first | with_reducible assumption | with_reducible rfl | decide)); (· exact rfl))
        | (apply op_load_at; (· exact rfl); (· exact rfl); (· repeat (first | with_reducible assumption | (with_reducible apply obj_here; with_reducible rfl) | with_reducible apply obj_set | (with_reducible apply obj_skip_lo; (· ((repeat (first | with_reducible assumption | with_reducible apply Lo.self | with_reducible apply Lo.new | with_reducible apply Lo.set | with_reducible apply Lo.self1 | with_reducible apply Lo.self2)); done))) | (with_reducible apply obj_past; (· ((first | with_reducible assumption | with_reducible apply ne_add1 | with_reducible apply ne_add1' | with_reducible apply ne_add2 | with_reducible apply ne_add2' | with_reducible apply ne_add12 | with_reducible apply ne_add21 | (with_reducible apply Lo.ne; (repeat (first | with_reducible assumption | with_reducible apply Lo.self | with_reducible apply Lo.new | with_reducible apply Lo.set | with_reducible apply Lo.self1 | with_reducible apply Lo.self2)); done) | (with_reducible apply Lo.ne1; (repeat (first | with_reducible assumption | with_reducible apply Lo.self | with_reducible apply Lo.new | with_reducible apply Lo.set | with_reducible apply Lo.self1 | with_reducible apply Lo.self2)); done) | (with_reducible apply Lo.ne'; (repeat (first | with_reducible assumption | with_reducible apply Lo.self | with_reducible apply Lo.new | with_reducible apply Lo.set | with_reducible apply Lo.self1 | with_reducible apply Lo.self2)); done) | (with_reducible apply Lo.ne1'; (repeat (first | with_reducible assumption | with_reducible apply Lo.self | with_reducible apply Lo.new | with_reducible apply Lo.set | with_reducible apply Lo.self1 | with_reducible apply Lo.self2)); done)); done))))); (· exact rfl); (· exact rfl))
        | (apply op_store_at; (· exact rfl); (· exact rfl); (· exact rfl); (· repeat (first | with_reducible assumption | (with_reducible apply obj_here; with_reducible rfl) | with_reducible apply obj_set | (with_reducible apply obj_skip_lo; (· ((repeat (first | with_reducible assumption | with_reducible apply Lo.self | with_reducible apply Lo.new | with_reducible apply Lo.set | with_reducible apply Lo.self1 | with_reducible apply Lo.self2)); done))) | (with_reducible apply obj_past; (· ((first | with_reducible assumption | with_reducible apply ne_add1 | with_reducible apply ne_add1' | with_reducible apply ne_add2 | with_reducible apply ne_add2' | with_reducible apply ne_add12 | with_reducible apply ne_add21 | (with_reducible apply Lo.ne; (repeat (first | with_reducible assumption | with_reducible apply Lo.self | with_reducible apply Lo.new | with_reducible apply Lo.set | with_reducible apply Lo.self1 | with_reducible apply Lo.self2)); done) | (with_reducible apply Lo.ne1; (repeat (first | with_reducible assumption | with_reducible apply Lo.self | with_reducible apply Lo.new | with_reducible apply Lo.set | with_reducible apply Lo.self1 | with_reducible apply Lo.self2)); done) | (with_reducible apply Lo.ne'; (repeat (first | with_reducible assumption | with_reducible apply Lo.self | with_reducible apply Lo.new | with_reducible apply Lo.set | with_reducible apply Lo.self1 | with_reducible apply Lo.self2)); done) | (with_reducible apply Lo.ne1'; (repeat (first | with_reducible assumption | with_reducible apply Lo.self | with_reducible apply Lo.new | with_reducible apply Lo.set | with_reducible apply Lo.self1 | with_reducible apply Lo.self2)); done)); done))))); (· exact rfl); (· exact rfl); (· exact rfl))
        | (apply op_at; (· exact opD_eqb rfl rfl rfl rfl))
        | (apply op_at; (· exact opD_neqb rfl rfl rfl rfl))
        | (apply op_at; (· exact rfl))
        | (apply dwp_cond_t; (· exact rfl); (· (first | with_reducible assumption | with_reducible rfl | decide)))
        | (apply dwp_cond_f; (· exact rfl); (· (first | with_reducible assumption | with_reducible rfl | decide)))
        | (refine dwp_cond rfl ?_ ?_ <;> intro hb)
        | apply dwp_block
        | apply dwp_skip
        | apply dwp_ret
        | apply dwp_exit
        | (refine ⟨_, rfl, ?_⟩)
        | fail)
    · have h2' : ((l.length : Int) == 0) = false := by simpa using h2
      have hlen : l.length ≤ 100 := by simp only [decide_eq_false_iff_not] at h1'; omega
      have hpos : 0 < l.length := by simp at h2'; exact List.length_pos_iff.mpr h2'
      have hne : (l.length : Int) ≠ 0 := by omega
      obtain ⟨kk, hkk, hmod⟩ := modk k0 l.length hpos (by omega)
      obtain ⟨y, hy⟩ : ∃ y, l[kk]? = some y := ⟨l[kk], List.getElem?_eq_getElem hkk⟩
      obtain ⟨t1, t2, t3, t4, t5, t6⟩ := takes l y (List.mem_of_getElem? hy) hlen
      have hL : Its H (.sl p l.length c ex) l := ⟨_, _, _, rfl, hl⟩
      obtain ⟨loc, i0, ro, rs, rfl, hloc, ho, hry⟩ := hl.rd hy
      have hr1 : rs[i0 + ((kk : Int)).toNat]? = some y.cells := by rw [Int.toNat_natCast]; exact hry
      have hin1 : 0 ≤ (kk : Int) ∧ (kk : Int) < (l.length : Int) := by omega
      have hv1 : DV.int .i64 (IntKind.i64.wrap ((l.length : Int) - 1)) = .int .i64 ((l.length - 1 : Nat) : Int) := by rw [wrapI (by omega), show ((l.length : Nat) : Int) - 1 = ((l.length - 1 : Nat) : Int) by omega]
      have n1 : ((takeX (buildL l) y.s).s != y.s) = false := by rw [t2]; exact bne_self_eq_false _
      have n2 : (((takeV (buildL l) y.s).length : Int) != ((l.length - 1 : Nat) : Int)) = false := by rw [t3]; exact bne_self_eq_false _
      have hpl := t6.length_eq
      have fin : (checkB (buildL (pushV (takeV (buildL l) y.s) (takeX (buildL l) y.s))) && decide (sortL (buildL (pushV (takeV (buildL l) y.s) (takeX (buildL l) y.s))) = sortL l)) = true := by
        rw [Bool.and_eq_true, decide_eq_true_eq]
        exact ⟨checkB_heap.mpr ⟨buildL_heap _, by rw [(buildL_perm _).length_eq]; omega⟩, sortL_congr ((buildL_perm _).trans t6)⟩
      refine enter rfl Try.func6 rfl Try.ntmps6 rfl ?_
      dsimp only [List.cons_append, List.nil_append, List.length_cons, List.length_nil, List.replicate_succ, List.replicate_zero, Nat.reduceAdd, Nat.reduceSub]
      repeat' (first
        | dsimp only [putD, DV.cells, DH.new_next, DH.set_next, List.length_cons, List.length_nil, Nat.reduceAdd, List.set_cons_zero, List.set_cons_succ, getD_zero, getD_succ, fieldAt_zero, fieldAt_succ, thenD, blockD, retR]
        | apply dwp_seq
        | apply dwp_region
        | apply ops_nil
        | (apply ops_plain; (· exact rfl))
        | (apply ops_on; (· exact rfl); (· exact rfl); (· (first | with_reducible assumption | with_reducible rfl | decide)))
        | (apply ops_off1; (· exact rfl); (· exact rfl); (· (first | with_reducible assumption | with_reducible rfl | decide)))
        | (apply ops_off0; (· exact rfl); (· exact rfl); (· (first | with_reducible assumption | with_reducible rfl | decide)))
        | (apply ops_offn; (· exact rfl); (· exact rfl))
        | (apply ops_split1; (· exact rfl); (· exact rfl); all_goals intro hb)
        | (apply ops_split0; (· exact rfl); (· exact rfl); all_goals intro hb)
        | (apply op_call; (· exact rfl); (· exact rfl); (· exact rfl); refine call_table (g := gLive) rfl rfl ?_)
        | (apply op_call; (· exact rfl); (· exact rfl); (· exact rfl); refine (build_c hL (by omega)).mono ?_; rintro r H1 ⟨ab1, s1, rfl, i1⟩; have ho1 := ab1.obj hloc ho)
        | (apply op_call; (· exact rfl); (· exact rfl); (· exact rfl); refine (take_c y.s i1.its (by rw [(buildL_perm _).length_eq]; omega)).mono ?_; rintro r H2 ⟨ab2, s2, rfl, i2⟩; rw [t1]; obtain ⟨p2, c2, e2, rfl, it2, if2⟩ := i2; have ho2 := ab2.obj (Nat.lt_of_lt_of_le hloc ab1.le) ho1; have hlo2 : Lo H2 loc := lo (Nat.lt_of_lt_of_le hloc (ab1.trans ab2).le); have hup : ∀ {o o'}, Above H2 ((H2.new o).set H2.next o') := fun {o o'} => ((Above.refl H2).new _).set (Nat.le_refl _) _; have hchk : ∀ {o o'}, gCheck [.sl p2 (takeV (buildL l) y.s).length c2 e2] ((H2.new o).set H2.next o') = some (.bool true, (H2.new o).set H2.next o') := fun {o o'} => (by rw [(it2.mono hup).check, t4]))
        | (apply op_call; (· exact rfl); (· exact rfl); (· exact rfl); refine call_table (g := gCheck) rfl hchk ?_)
        | (apply op_call; (· exact rfl); (· exact rfl); (· exact rfl); refine (push_c (takeX (buildL l) y.s) (⟨_, _, _, rfl, it2.mono hup⟩ : Its _ (.sl p2 (takeV (buildL l) y.s).length c2 e2) _) (by omega)).mono ?_; rintro r H3 ⟨ab3, s3, rfl, i3⟩; rw [t5])
        | (apply op_call; (· exact rfl); (· exact rfl); (· exact rfl); refine (build_c i3.its (by omega)).mono ?_; rintro r H4 ⟨ab4, s4, rfl, i4⟩)
        | (apply op_call; (· exact rfl); (· exact rfl); (· exact rfl); refine (sorted_c (hL.mono (((ab1.trans ab2).trans hup).trans (ab3.trans ab4))) (by omega)).mono ?_; rintro r5 H5 ⟨ab5, i5⟩)
        | (apply op_call; (· exact rfl); (· exact rfl); (· exact rfl); refine (is_c (i4.its.mono ab5) i5.its (by rw [(buildL_perm _).length_eq]; omega)).mono ?_; rintro r H6 ⟨ab6, rfl⟩; rw [fin])
        | (apply op_pick_t; (· exact rfl); (· exact rfl); (· (first | with_reducible assumption | with_reducible rfl | decide)); (· exact rfl))
        | (apply op_pick_f; (· exact rfl); (· exact rfl); (· (first | with_reducible assumption | with_reducible rfl | decide)); (· exact rfl))
        | (apply op_at; (· exact opD_rem rfl rfl rfl hne hmod))
        | (apply op_at; (· exact opD_rem rfl rfl rfl hne rfl))
        | (apply op_index_at; (· exact rfl); (· exact rfl); (· exact rfl); (· with_reducible exact hin1); (· exact rfl); (· exact rfl))
        | (apply op_load_at; (· exact rfl); (· exact rfl); (· with_reducible exact ho); (· with_reducible exact hr1); (· exact rfl))
        | (apply op_load_at; (· exact rfl); (· exact rfl); (· with_reducible exact ho1); (· with_reducible exact hr1); (· exact rfl))
        | (apply op_at; (· exact opD_int rfl rfl rfl rfl hv1))
        | (apply op_load_at; (· exact rfl); (· exact rfl); (· repeat (first | with_reducible assumption | (with_reducible apply obj_here; with_reducible rfl) | with_reducible apply obj_set | (with_reducible apply obj_skip_lo; (· ((repeat (first | with_reducible assumption | with_reducible apply Lo.self | with_reducible apply Lo.new | with_reducible apply Lo.set | with_reducible apply Lo.self1 | with_reducible apply Lo.self2)); done))) | (with_reducible apply obj_past; (· ((first | with_reducible assumption | with_reducible apply ne_add1 | with_reducible apply ne_add1' | with_reducible apply ne_add2 | with_reducible apply ne_add2' | with_reducible apply ne_add12 | with_reducible apply ne_add21 | (with_reducible apply Lo.ne; (repeat (first | with_reducible assumption | with_reducible apply Lo.self | with_reducible apply Lo.new | with_reducible apply Lo.set | with_reducible apply Lo.self1 | with_reducible apply Lo.self2)); done) | (with_reducible apply Lo.ne1; (repeat (first | with_reducible assumption | with_reducible apply Lo.self | with_reducible apply Lo.new | with_reducible apply Lo.set | with_reducible apply Lo.self1 | with_reducible apply Lo.self2)); done) | (with_reducible apply Lo.ne'; (repeat (first | with_reducible assumption | with_reducible apply Lo.self | with_reducible apply Lo.new | with_reducible apply Lo.set | with_reducible apply Lo.self1 | with_reducible apply Lo.self2)); done) | (with_reducible apply Lo.ne1'; (repeat (first | with_reducible assumption | with_reducible apply Lo.self | with_reducible apply Lo.new | with_reducible apply Lo.set | with_reducible apply Lo.self1 | with_reducible apply Lo.self2)); done)); done))))); (· exact rfl); (· exact item_part (takeX (buildL l) y.s)))
        | (apply op_load_at; (· exact rfl); (· exact rfl); (· repeat (first | with_reducible assumption | (with_reducible apply obj_here; with_reducible rfl) | with_reducible apply obj_set | (with_reducible apply obj_skip_lo; (· ((repeat (first | with_reducible assumption | with_reducible apply Lo.self | with_reducible apply Lo.new | with_reducible apply Lo.set | with_reducible apply Lo.self1 | with_reducible apply Lo.self2)); done))) | (with_reducible apply obj_past; (· ((first | with_reducible assumption | with_reducible apply ne_add1 | with_reducible apply ne_add1' | with_reducible apply ne_add2 | with_reducible apply ne_add2' | with_reducible apply ne_add12 | with_reducible apply ne_add21 | (with_reducible apply Lo.ne; (repeat (first | with_reducible assumption | with_reducible apply Lo.self | with_reducible apply Lo.new | with_reducible apply Lo.set | with_reducible apply Lo.self1 | with_reducible apply Lo.self2)); done) | (with_reducible apply Lo.ne1; (repeat (first | with_reducible assumption | with_reducible apply Lo.self | with_reducible apply Lo.new | with_reducible apply Lo.set | with_reducible apply Lo.self1 | with_reducible apply Lo.self2)); done) | (with_reducible apply Lo.ne'; (repeat (first | with_reducible assumption | with_reducible apply Lo.self | with_reducible apply Lo.new | with_reducible apply Lo.set | with_reducible apply Lo.self1 | with_reducible apply Lo.self2)); done) | (with_reducible apply Lo.ne1'; (repeat (first | with_reducible assumption | with_reducible apply Lo.self | with_reducible apply Lo.new | with_reducible apply Lo.set | with_reducible apply Lo.self1 | with_reducible apply Lo.self2)); done)); done))))); (· exact hr1); (· exact rfl))
        | (apply op_load_at; (· exact rfl); (· exact rfl); (· repeat (first | with_reducible assumption | (with_reducible apply obj_here; with_reducible rfl) | with_reducible apply obj_set | (with_reducible apply obj_skip_lo; (· ((repeat (first | with_reducible assumption | with_reducible apply Lo.self | with_reducible apply Lo.new | with_reducible apply Lo.set | with_reducible apply Lo.self1 | with_reducible apply Lo.self2)); done))) | (with_reducible apply obj_past; (· ((first | with_reducible assumption | with_reducible apply ne_add1 | with_reducible apply ne_add1' | with_reducible apply ne_add2 | with_reducible apply ne_add2' | with_reducible apply ne_add12 | with_reducible apply ne_add21 | (with_reducible apply Lo.ne; (repeat (first | with_reducible assumption | with_reducible apply Lo.self | with_reducible apply Lo.new | with_reducible apply Lo.set | with_reducible apply Lo.self1 | with_reducible apply Lo.self2)); done) | (with_reducible apply Lo.ne1; (repeat (first | with_reducible assumption | with_reducible apply Lo.self | with_reducible apply Lo.new | with_reducible apply Lo.set | with_reducible apply Lo.self1 | with_reducible apply Lo.self2)); done) | (with_reducible apply Lo.ne'; (repeat (first | with_reducible assumption | with_reducible apply Lo.self | with_reducible apply Lo.new | with_reducible apply Lo.set | with_reducible apply Lo.self1 | with_reducible apply Lo.self2)); done) | (with_reducible apply Lo.ne1'; (repeat (first | with_reducible assumption | with_reducible apply Lo.self | with_reducible apply Lo.new | with_reducible apply Lo.set | with_reducible apply Lo.self1 | with_reducible apply Lo.self2)); done)); done))))); (· exact rfl); (· exact rfl))
        | (apply op_store_at; (· exact rfl); (· exact rfl); (· exact rfl); (· repeat (first | with_reducible assumption | (with_reducible apply obj_here; with_reducible rfl) | with_reducible apply obj_set | (with_reducible apply obj_skip_lo; (· ((repeat (first | with_reducible assumption | with_reducible apply Lo.self | with_reducible apply Lo.new | with_reducible apply Lo.set | with_reducible apply Lo.self1 | with_reducible apply Lo.self2)); done))) | (with_reducible apply obj_past; (· ((first | with_reducible assumption | with_reducible apply ne_add1 | with_reducible apply ne_add1' | with_reducible apply ne_add2 | with_reducible apply ne_add2' | with_reducible apply ne_add12 | with_reducible apply ne_add21 | (with_reducible apply Lo.ne; (repeat (first | with_reducible assumption | with_reducible apply Lo.self | with_reducible apply Lo.new | with_reducible apply Lo.set | with_reducible apply Lo.self1 | with_reducible apply Lo.self2)); done) | (with_reducible apply Lo.ne1; (repeat (first | with_reducible assumption | with_reducible apply Lo.self | with_reducible apply Lo.new | with_reducible apply Lo.set | with_reducible apply Lo.self1 | with_reducible apply Lo.self2)); done) | (with_reducible apply Lo.ne'; (repeat (first | with_reducible assumption | with_reducible apply Lo.self | with_reducible apply Lo.new | with_reducible apply Lo.set | with_reducible apply Lo.self1 | with_reducible apply Lo.self2)); done) | (with_reducible apply Lo.ne1'; (repeat (first | with_reducible assumption | with_reducible apply Lo.self | with_reducible apply Lo.new | with_reducible apply Lo.set | with_reducible apply Lo.self1 | with_reducible apply Lo.self2)); done)); done))))); (· exact rfl); (· exact rfl); (· exact rfl))
        | (apply op_at; (· exact opD_eqb rfl rfl rfl rfl))
        | (apply op_at; (· exact opD_neqb rfl rfl rfl rfl))
        | (apply op_at; (· exact rfl))
        | refine dwp_draw _ rfl ?_
        | apply draw_nil
        | (apply all_and; (· kernel_rfl))
        | (apply was_and; (· kernel_rfl))
        | (apply draw_pure; (· (first | exact wanted_plain rfl | (apply wanted_on; (· exact rfl); (· exact rfl); (· (first | with_reducible assumption | with_reducible rfl | decide))))); (· exact rfl); (· exact rfl))
        | (apply draw_read; (· (first | exact wanted_plain rfl | (apply wanted_on; (· exact rfl); (· exact rfl); (· (first | with_reducible assumption | with_reducible rfl | decide))))); (· exact rfl); (· exact rfl))
        | (apply draw_move; (· (first | exact wanted_plain rfl | (apply wanted_on; (· exact rfl); (· exact rfl); (· (first | with_reducible assumption | with_reducible rfl | decide))))); (· exact rfl))
        | (apply draw_off; (· (first | (apply wanted_off1; (· exact rfl); (· exact rfl); (· (first | with_reducible assumption | with_reducible rfl | decide))) | (apply wanted_off0; (· exact rfl); (· exact rfl); (· (first | with_reducible assumption | with_reducible rfl | decide))) | (apply wanted_none; (· exact rfl); (· exact rfl)))))
        | (apply dwp_cond_t; (· exact rfl); (· (first | with_reducible assumption | with_reducible rfl | decide)))
        | (apply dwp_cond_f; (· exact rfl); (· (first | with_reducible assumption | with_reducible rfl | decide)))
        | (refine dwp_cond rfl ?_ ?_ <;> intro hb)
        | apply dwp_block
        | apply dwp_skip
        | apply dwp_ret
        | apply dwp_exit
        | (refine ⟨_, rfl, ?_⟩)
        | fail)
theorem row6 (H : DH) (hr : RO H) (hw : WF H) (xs : List DV) (hx : TArgs Try.prog H [23, 3] xs) : ∃ k H', callD Try.prog X4 k 6 xs H = some (.bool true, H') := by
  match xs, hx with
  | [a, b], ⟨h1, h2, _⟩ =>
    obtain ⟨p, c1, ex, l, rfl, hl, _⟩ := items_in hw h1
    obtain ⟨q, rfl, _⟩ := int_arg h2
    obtain ⟨k, r, H', hk, rfl⟩ := (law6 H p c1 ex l q hl).ex
    exact ⟨k, H', hk⟩
end Go.Det.Q

/- HeapTakes answers true, whatever it is handed; nothing is asked of the arguments but their types. -/
namespace Go.Proofs.Ytpgobchpnjgbdaa.heapTakes
open Go Go.Det Go.Det.Q Go.ChangeShapes Go.WideShapes Go.ChangeAt Go.RowKit
set_option linter.unusedVariables false
set_option linter.unusedSimpArgs false
theorem own : ownKnob Try.prog.godebug = none := by kernel_rfl
theorem laidOut : laidOutB Try.prog = true := by kernel_rfl
set_option maxRecDepth 100000 in
theorem lifted (os : Os) (started : os.Started) (H : Type) (enc : TypeId × Value → H) :
    ReturnsInHanded {} Try.checked os 6 .any (Rows.heapTakesSpec.pre6 enc Try.prog Try.f6 Rows.heapTakesRow.domain false) (Rows.heapTakesSpec.post enc Try.prog Try.f6 false true false false) := by
  exact row_law (C := Try.checked) (X := X4) (ts := [23, 3]) (rt := 4) (n := 5) own started (by kernel_rfl) Try.func6
    (ChangeSpec.witness6 (enc := enc) (C := Try.checked) false ⟨#[], #[.slice none 0 0, .int .i64 0], []⟩ 8 (by kernel_rfl) (by kernel_rfl) (by kernel_rfl) (by kernel_rfl))
    rfl okX4 rfl Try.params6 rfl Try.underlying4 (by kernel_rfl) (by kernel_rfl) laidOut rfl
    (by intro ds h; match ds, h with | [_, _], _ => rfl)
    (fun H xs hr hw hx => row6 H hr hw xs hx)
theorem over : Rows.heapTakesRow.holds Try.pinned (OpenSpec.ofChange Rows.heapTakesSpec) :=
  OpenClaim.holds_of_wide 6 Try.f6 rfl rfl rfl rfl rfl rfl rfl ⟨rfl, rfl, rfl, rfl, rfl⟩ rfl rfl rfl rfl rfl (by kernel_rfl) Try.func6 (by kernel_rfl)
    (of_decide_eq_true (by kernel_rfl)) (by unfold Func.isWrapper; first | (rw [if_pos (by decide +kernel)]; kernel_rfl) | (rw [if_neg (by decide +kernel)]; exact ⟨rfl, rfl⟩))
    (fun os started H enc _ => lifted os started H enc)
theorem proved : Rows.HeapTakesSaid := over
end Go.Proofs.Ytpgobchpnjgbdaa.heapTakes
namespace Go.Proofs.Ytpgobchpnjgbdaa
/-- The row, under a short name, for the claim. -/
theorem heapTakes_holds : Rows.HeapTakesSaid := heapTakes.proved
#print axioms heapTakes_holds
end Go.Proofs.Ytpgobchpnjgbdaa
