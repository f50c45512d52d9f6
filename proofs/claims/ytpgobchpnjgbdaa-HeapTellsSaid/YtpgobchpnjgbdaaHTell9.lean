/- Heaps, by the document's reference. -/
import Derived.Test.YtpgobchpnjgbdaaHTell8
namespace Go.Det.Q
open Go Go.Det Go.Proofs
set_option maxRecDepth 4000
set_option maxHeartbeats 4000000
set_option linter.unusedVariables false
set_option linter.unusedSimpArgs false
theorem rless_call4 {x y : Item} {H : DH} {K : DV → DH → Prop} (h : K (.bool (ilt x y)) H) : CallWp Try.prog X4 20 [.agg x.cells, .agg y.cells] H K := call_table (g := gLess) rfl rfl h
theorem mine_itsF_ne {A H : DH} {l : List Item} {s : DV} (h : Mine A H 6 (l.map Item.cells) s) (hne : l ≠ []) (hm : l.length ≤ maxLen) : ItsF A H s l := by
  obtain ⟨p, c, ex, rfl, hi⟩ := it_of_mine h hm
  refine ⟨p, c, ex, rfl, hi, fun loc i z e => ?_⟩
  obtain ⟨x, hx⟩ : ∃ x, l[0]? = some x := ⟨l[0]'(List.length_pos_iff.mpr hne), List.getElem?_eq_getElem _⟩
  obtain ⟨loc', ex', heq, hge, _⟩ := h.wr (k := 0) (r := x.cells) (by rw [List.getElem?_map, hx]; rfl)
  simp only [DV.sl.injEq] at heq
  rw [heq.1] at e
  cases e
  exact hge
/-- The slice up to a place, and from there on. -/
theorem It.take {H : DH} {loc i c : Nat} {ex : Bool} {l : List Item} (h : It H (some (loc, i, 6)) c ex l) {k : Nat} (hk : k ≤ l.length) {xt : Option TypeDesc} {t : TypeId} (hu : xt = some (.slice t)) : appendedD Try.prog 26 H xt (.sl (some (loc, i, 6)) ((k : Int)).toNat c ex) = some ((l.take k).map Item.cells) := by
  have h1 := h.sl.sub (a := 0) (b := k) (Nat.zero_le _) (by rw [List.length_map]; omega)
  have h2 := appended_sl (P := Try.prog) (e := 26) hu h1 c ex
  rw [List.drop_zero, Nat.sub_zero, ← List.map_take, List.length_map, List.length_take, Nat.min_eq_left (by omega)] at h2
  rw [Int.toNat_natCast]
  exact h2
theorem It.dropI {H : DH} {loc i c : Nat} {ex : Bool} {l : List Item} (h : It H (some (loc, i, 6)) c ex l) {k : Nat} (hk : k ≤ l.length) : It H (some (loc, i + k, 6)) (c - k) ex (l.drop k) := by
  have h1 := h.sl.sub (a := k) (b := l.length) hk (by rw [List.length_map]; omega)
  have e0 : (((l.map Item.cells).drop k).take (l.length - k)) = (l.drop k).map Item.cells := by
    rw [List.map_drop, List.take_of_length_le (by simp)]
  rw [e0] at h1
  exact ⟨h1, fun h => (by cases h), by have := h.len; rw [List.length_drop]; omega, by have := h.cap; rw [List.length_drop]; omega⟩
theorem It.drop {H : DH} {loc i c : Nat} {ex : Bool} {l : List Item} (h : It H (some (loc, i, 6)) c ex l) {k : Nat} (hk : k ≤ l.length) {xt : Option TypeDesc} {t : TypeId} (hu : xt = some (.slice t)) : appendedD Try.prog 26 H xt (.sl (some (loc, i + ((k : Int)).toNat, 6)) (l.length - ((k : Int)).toNat) (c - ((k : Int)).toNat) ex) = some ((l.drop k).map Item.cells) := by
  have h2 := (h.dropI hk).appended hu
  rw [List.length_drop] at h2
  rw [Int.toNat_natCast]
  exact h2
def putL (l : List Item) (x : Item) : List Item := l.takeWhile (fun y => !ilt x y) ++ x :: l.dropWhile (fun y => !ilt x y)
theorem putL_at {l : List Item} {x : Item} {k : Nat} (hk : k ≤ l.length) (hb : ∀ (j : Nat) (y : Item), j < k → l[j]? = some y → ilt x y = false) (he : ∀ y, l[k]? = some y → ilt x y = true) : putL l x = l.take k ++ x :: l.drop k := by
  have h1 : l.takeWhile (fun y => !ilt x y) = l.take k ∧ l.dropWhile (fun y => !ilt x y) = l.drop k := by
    clear hk
    induction l generalizing k with
    | nil => simp
    | cons z l ih =>
      cases k with
      | zero =>
        have := he z rfl
        simp [List.takeWhile_cons, List.dropWhile_cons, this]
      | succ k =>
        have h0 := hb 0 z (Nat.succ_pos _) rfl
        have := ih (k := k) (fun j y hj hy => hb (j + 1) y (by omega) (by simpa using hy)) (fun y hy => he y (by simpa using hy))
        simp [List.takeWhile_cons, List.dropWhile_cons, h0, this]
  unfold putL
  rw [h1.1, h1.2]
theorem putL_length (l : List Item) (x : Item) : (putL l x).length = l.length + 1 := by
  unfold putL
  have := congrArg List.length (List.takeWhile_append_dropWhile (p := fun y => !ilt x y) (l := l))
  rw [List.length_append] at this
  rw [List.length_append, List.length_cons]
  omega
theorem put57 (H : DH) (p : Option (Nat × Nat × Nat)) (c : Nat) (ex : Bool) (l : List Item) (x : Item) (hl : It H p c ex l) (hn : l.length ≤ 1000000) :
    CallWp Try.prog X4 57 [.sl p l.length c ex, .agg x.cells] H (fun r H' => Above H H' ∧ ItsF H H' r (putL l x)) := by
  have hab0 : Above H (H.new (.rows false 6 [x.cells])) := (Above.refl H).new _
  have hl0 := hl.mono hab0
  refine enter rfl Try.func57 rfl Try.ntmps57 rfl ?_
  dsimp only [List.cons_append, List.nil_append, List.length_cons, List.length_nil, List.replicate_succ, List.replicate_zero, Nat.reduceAdd, Nat.reduceSub]
  repeat' (first
    | dsimp only [putD, DV.cells, DH.new_next, DH.set_next, List.length_cons, List.length_nil, Nat.reduceAdd, List.set_cons_zero, List.set_cons_succ, getD_zero, getD_succ, fieldAt_zero, fieldAt_succ, thenD, blockD, retR]
    | apply dwp_seq
    | apply dwp_region
    | apply ops_nil
    | (apply ops_plain; (· exact rfl))
    | (apply ops_on; (· exact rfl); (· exact rfl); (· (first | with_reducible assumption | with_reducible rfl | decide)))
    | (apply ops_off1; (· exact rfl); (· exact rfl); (· (first | with_reducible assumption | with_reducible rfl | decide)))
    | (apply ops_off0; (· exact rfl); (· exact rfl); (· (first | with_reducible assumption | with_reducible rfl | decide)))
    | (apply ops_offn; (· exact rfl); (· exact rfl))
    | (apply ops_split1; (· exact rfl); (· exact rfl); all_goals intro hb)
    | (apply ops_split0; (· exact rfl); (· exact rfl); all_goals intro hb)
    | (apply op_pick_t; (· exact rfl); (· exact rfl); (· (first | with_reducible assumption | with_reducible rfl | decide)); (· exact rfl))
    | (apply op_pick_f; (· exact rfl); (· exact rfl); (· (first | with_reducible assumption | with_reducible rfl | decide)); (· exact rfl))
    | (apply op_load_at; (· exact rfl); (· exact rfl); (· repeat (first | with_reducible assumption | (with_reducible apply obj_here; with_reducible rfl) | with_reducible apply obj_set | (with_reducible apply obj_skip_lo; (· ((repeat (first | with_reducible assumption | with_reducible apply Lo.self | with_reducible apply Lo.new | with_reducible apply Lo.set | with_reducible apply Lo.self1 | with_reducible apply Lo.self2)); done))) | (with_reducible apply obj_past; (· ((first | with_reducible assumption | with_reducible apply ne_add1 | with_reducible apply ne_add1' | with_reducible apply ne_add2 | with_reducible apply ne_add2' | with_reducible apply ne_add12 | with_reducible apply ne_add21 | (with_reducible apply Lo.ne; (repeat (first | with_reducible assumption | with_reducible apply Lo.self | with_reducible apply Lo.new | with_reducible apply Lo.set | with_reducible apply Lo.self1 | with_reducible apply Lo.self2)); done) | (with_reducible apply Lo.ne1; (repeat (first | with_reducible assumption | with_reducible apply Lo.self | with_reducible apply Lo.new | with_reducible apply Lo.set | with_reducible apply Lo.self1 | with_reducible apply Lo.self2)); done) | (with_reducible apply Lo.ne'; (repeat (first | with_reducible assumption | with_reducible apply Lo.self | with_reducible apply Lo.new | with_reducible apply Lo.set | with_reducible apply Lo.self1 | with_reducible apply Lo.self2)); done) | (with_reducible apply Lo.ne1'; (repeat (first | with_reducible assumption | with_reducible apply Lo.self | with_reducible apply Lo.new | with_reducible apply Lo.set | with_reducible apply Lo.self1 | with_reducible apply Lo.self2)); done)); done))))); (· exact rfl); (· exact rfl))
    | (apply op_store_at; (· exact rfl); (· exact rfl); (· exact rfl); (· repeat (first | with_reducible assumption | (with_reducible apply obj_here; with_reducible rfl) | with_reducible apply obj_set | (with_reducible apply obj_skip_lo; (· ((repeat (first | with_reducible assumption | with_reducible apply Lo.self | with_reducible apply Lo.new | with_reducible apply Lo.set | with_reducible apply Lo.self1 | with_reducible apply Lo.self2)); done))) | (with_reducible apply obj_past; (· ((first | with_reducible assumption | with_reducible apply ne_add1 | with_reducible apply ne_add1' | with_reducible apply ne_add2 | with_reducible apply ne_add2' | with_reducible apply ne_add12 | with_reducible apply ne_add21 | (with_reducible apply Lo.ne; (repeat (first | with_reducible assumption | with_reducible apply Lo.self | with_reducible apply Lo.new | with_reducible apply Lo.set | with_reducible apply Lo.self1 | with_reducible apply Lo.self2)); done) | (with_reducible apply Lo.ne1; (repeat (first | with_reducible assumption | with_reducible apply Lo.self | with_reducible apply Lo.new | with_reducible apply Lo.set | with_reducible apply Lo.self1 | with_reducible apply Lo.self2)); done) | (with_reducible apply Lo.ne'; (repeat (first | with_reducible assumption | with_reducible apply Lo.self | with_reducible apply Lo.new | with_reducible apply Lo.set | with_reducible apply Lo.self1 | with_reducible apply Lo.self2)); done) | (with_reducible apply Lo.ne1'; (repeat (first | with_reducible assumption | with_reducible apply Lo.self | with_reducible apply Lo.new | with_reducible apply Lo.set | with_reducible apply Lo.self1 | with_reducible apply Lo.self2)); done)); done))))); (· exact rfl); (· exact rfl); (· exact rfl))
    | (apply op_at; (· exact opD_eqb rfl rfl rfl rfl))
    | (apply op_at; (· exact opD_neqb rfl rfl rfl rfl))
    | (apply op_at; (· exact rfl))
    | (apply dwp_cond_t; (· exact rfl); (· (first | with_reducible assumption | with_reducible rfl | decide)))
    | (apply dwp_cond_f; (· exact rfl); (· (first | with_reducible assumption | with_reducible rfl | decide)))
    | (refine dwp_cond rfl ?_ ?_ <;> intro hb)
    | apply dwp_block
    | apply dwp_skip
    | apply dwp_ret
    | apply dwp_exit
    | (refine ⟨_, rfl, ?_⟩)
    | fail)
  refine dwp_loop (fun st => ∃ (k : Nat), ∃ J : Nat → DV, (k ≤ l.length ∧ ∀ (j : Nat) (y : Item), j < k → l[j]? = some y → ilt x y = false) ∧ st = ⟨(.sl p l.length c ex :: .agg x.cells :: J 2 :: .ptr (some (H.next, 0, 0)) :: J 4 :: .int .i64 (k : Int) :: J 6 :: J 7 :: J 8 :: J 9 :: J 10 :: J 11 :: J 12 :: J 13 :: J 14 :: J 15 :: J 16 :: J 17 :: J 18 :: J 19 :: J 20 :: J 21 :: J 22 :: J 23 :: J 24 :: J 25 :: J 26 :: J 27 :: J 28 :: J 29 :: J 30 :: J 31 :: J 32 :: J 33 :: []), (H.new (.rows false 6 [x.cells]))⟩) (fun st => l.length - kOf st 5) (⟨0, junk_facts (⟨Nat.zero_le _, fun j y h => absurd h (Nat.not_lt_zero _)⟩) rfl rfl⟩) ?_
  rintro st ⟨k, J, ⟨hk, hbef⟩, rfl⟩
  by_cases hlt : k < l.length
  · obtain ⟨y, hy⟩ : ∃ y, l[k]? = some y := ⟨l[k], List.getElem?_eq_getElem hlt⟩
    obtain ⟨loc, i0, ro, rs, rfl, hloc, ho, hry⟩ := hl0.rd hy
    have hr1 : rs[i0 + ((k : Int)).toNat]? = some y.cells := by rw [Int.toNat_natCast]; exact hry
    have hc : decide ((k : Int) < (l.length : Int)) = true := by simp [hlt]
    have hin1 : 0 ≤ (k : Int) ∧ (k : Int) < (l.length : Int) := by omega
    have hw := wrapNat (k := k) (by omega)
    cases hxy : ilt x y with
    | true =>
      have hex : ∀ z, l[k]? = some z → ilt x z = true := fun z hz => by rw [hy] at hz; cases hz; exact hxy
      have hcap := hl.cap
      have hinh : 0 ≤ (k : Int) ∧ (k : Int) ≤ (c : Int) := by omega
      have hinl : 0 ≤ (k : Int) ∧ (k : Int) ≤ (l.length : Int) := by omega
      have hnewA := hl0.take (k := k) (by omega) Try.underlying23
      have hnewB : ∀ H', Above (H.new (.rows false 6 [x.cells])) H' → appendedD Try.prog 26 H' (Try.prog.underlying 23) (.sl (some (loc, i0 + ((k : Int)).toNat, 6)) (l.length - ((k : Int)).toNat) (c - ((k : Int)).toNat) ex) = some ((l.drop k).map Item.cells) := fun H' h => (hl0.mono h).drop (by omega) Try.underlying23
      repeat' (first
        | dsimp only [putD, DV.cells, DH.new_next, DH.set_next, List.length_cons, List.length_nil, Nat.reduceAdd, List.set_cons_zero, List.set_cons_succ, getD_zero, getD_succ, fieldAt_zero, fieldAt_succ, thenD, blockD, retR]
        | apply dwp_seq
        | apply dwp_region
        | apply ops_nil
        | (apply ops_plain; (· exact rfl))
        | (apply ops_on; (· exact rfl); (· exact rfl); (· (first | with_reducible assumption | with_reducible rfl | decide)))
        | (apply ops_off1; (· exact rfl); (· exact rfl); (· (first | with_reducible assumption | with_reducible rfl | decide)))
        | (apply ops_off0; (· exact rfl); (· exact rfl); (· (first | with_reducible assumption | with_reducible rfl | decide)))
        | (apply ops_offn; (· exact rfl); (· exact rfl))
        | (apply ops_split1; (· exact rfl); (· exact rfl); all_goals intro hb)
        | (apply ops_split0; (· exact rfl); (· exact rfl); all_goals intro hb)
        | (apply op_call; (· exact rfl); (· exact rfl); (· exact rfl); refine rless_call4 ?_; rw [hxy])
        | (apply op_pick_t; (· exact rfl); (· exact rfl); (· (first | with_reducible assumption | with_reducible rfl | decide)); (· exact rfl))
        | (apply op_pick_f; (· exact rfl); (· exact rfl); (· (first | with_reducible assumption | with_reducible rfl | decide)); (· exact rfl))
        | (apply op_index_at; (· exact rfl); (· exact rfl); (· exact rfl); (· with_reducible exact hin1); (· exact rfl); (· exact rfl))
        | (apply op_load_at; (· exact rfl); (· exact rfl); (· with_reducible exact ho); (· with_reducible exact hr1); (· exact (item_part y)))
        | (apply op_load_at; (· exact rfl); (· exact rfl); (· repeat (first | with_reducible assumption | (with_reducible apply obj_here; with_reducible rfl) | with_reducible apply obj_set | (with_reducible apply obj_skip_lo; (· ((repeat (first | with_reducible assumption | with_reducible apply Lo.self | with_reducible apply Lo.new | with_reducible apply Lo.set | with_reducible apply Lo.self1 | with_reducible apply Lo.self2)); done))) | (with_reducible apply obj_past; (· ((first | with_reducible assumption | with_reducible apply ne_add1 | with_reducible apply ne_add1' | with_reducible apply ne_add2 | with_reducible apply ne_add2' | with_reducible apply ne_add12 | with_reducible apply ne_add21 | (with_reducible apply Lo.ne; (repeat (first | with_reducible assumption | with_reducible apply Lo.self | with_reducible apply Lo.new | with_reducible apply Lo.set | with_reducible apply Lo.self1 | with_reducible apply Lo.self2)); done) | (with_reducible apply Lo.ne1; (repeat (first | with_reducible assumption | with_reducible apply Lo.self | with_reducible apply Lo.new | with_reducible apply Lo.set | with_reducible apply Lo.self1 | with_reducible apply Lo.self2)); done) | (with_reducible apply Lo.ne'; (repeat (first | with_reducible assumption | with_reducible apply Lo.self | with_reducible apply Lo.new | with_reducible apply Lo.set | with_reducible apply Lo.self1 | with_reducible apply Lo.self2)); done) | (with_reducible apply Lo.ne1'; (repeat (first | with_reducible assumption | with_reducible apply Lo.self | with_reducible apply Lo.new | with_reducible apply Lo.set | with_reducible apply Lo.self1 | with_reducible apply Lo.self2)); done)); done))))); (· exact rfl); (· exact item_part x))
        | (refine op_append_fresh (xt := 23) rfl rfl rfl E23 hnewA (cells_all _) (by rw [List.length_map, List.length_take]; unfold mostD; omega) ?_; intro s1 H1 hm1 hab1 hfr1; have hbox1 := hab1.obj (l := H.next) (Nat.lt_succ_self _) (obj_here rfl); have hm1' := hm1.mono ((Above.refl H1).new (.rows false 6 [x.cells])))
        | (refine op_append (xt := 23) (new := [x.cells]) rfl rfl rfl E23 hm1' (hab1.new _) (appended_sl Try.underlying23 Sl.fresh _ _) rfl (by rw [List.length_map, List.length_take]; show _ + 1 ≤ mostD; unfold mostD; omega) ?_; intro s2 H2 hm2 hab2 hax2 hfr2)
        | (refine op_append (xt := 23) rfl rfl rfl E23 hm2 hab2 (hnewB _ hab2) (cells_all _) (by rw [List.length_append, List.length_map, List.length_map, List.length_take, List.length_drop]; show _ + 1 + _ ≤ mostD; unfold mostD; omega) ?_; intro s3 H3 hm3 hab3 hax3 hfr3)
        | (apply op_at; (· exact opD_slice_hi rfl rfl rfl rfl rfl hinh))
        | (apply op_at; (· exact opD_slice_lo rfl rfl rfl rfl rfl hinl))
        | (apply op_load_at; (· exact rfl); (· exact rfl); (· repeat (first | with_reducible assumption | (with_reducible apply obj_here; with_reducible rfl) | with_reducible apply obj_set | (with_reducible apply obj_skip_lo; (· ((repeat (first | with_reducible assumption | with_reducible apply Lo.self | with_reducible apply Lo.new | with_reducible apply Lo.set | with_reducible apply Lo.self1 | with_reducible apply Lo.self2)); done))) | (with_reducible apply obj_past; (· ((first | with_reducible assumption | with_reducible apply ne_add1 | with_reducible apply ne_add1' | with_reducible apply ne_add2 | with_reducible apply ne_add2' | with_reducible apply ne_add12 | with_reducible apply ne_add21 | (with_reducible apply Lo.ne; (repeat (first | with_reducible assumption | with_reducible apply Lo.self | with_reducible apply Lo.new | with_reducible apply Lo.set | with_reducible apply Lo.self1 | with_reducible apply Lo.self2)); done) | (with_reducible apply Lo.ne1; (repeat (first | with_reducible assumption | with_reducible apply Lo.self | with_reducible apply Lo.new | with_reducible apply Lo.set | with_reducible apply Lo.self1 | with_reducible apply Lo.self2)); done) | (with_reducible apply Lo.ne'; (repeat (first | with_reducible assumption | with_reducible apply Lo.self | with_reducible apply Lo.new | with_reducible apply Lo.set | with_reducible apply Lo.self1 | with_reducible apply Lo.self2)); done) | (with_reducible apply Lo.ne1'; (repeat (first | with_reducible assumption | with_reducible apply Lo.self | with_reducible apply Lo.new | with_reducible apply Lo.set | with_reducible apply Lo.self1 | with_reducible apply Lo.self2)); done)); done))))); (· exact rfl); (· exact rfl))
        | (apply op_store_at; (· exact rfl); (· exact rfl); (· exact rfl); (· repeat (first | with_reducible assumption | (with_reducible apply obj_here; with_reducible rfl) | with_reducible apply obj_set | (with_reducible apply obj_skip_lo; (· ((repeat (first | with_reducible assumption | with_reducible apply Lo.self | with_reducible apply Lo.new | with_reducible apply Lo.set | with_reducible apply Lo.self1 | with_reducible apply Lo.self2)); done))) | (with_reducible apply obj_past; (· ((first | with_reducible assumption | with_reducible apply ne_add1 | with_reducible apply ne_add1' | with_reducible apply ne_add2 | with_reducible apply ne_add2' | with_reducible apply ne_add12 | with_reducible apply ne_add21 | (with_reducible apply Lo.ne; (repeat (first | with_reducible assumption | with_reducible apply Lo.self | with_reducible apply Lo.new | with_reducible apply Lo.set | with_reducible apply Lo.self1 | with_reducible apply Lo.self2)); done) | (with_reducible apply Lo.ne1; (repeat (first | with_reducible assumption | with_reducible apply Lo.self | with_reducible apply Lo.new | with_reducible apply Lo.set | with_reducible apply Lo.self1 | with_reducible apply Lo.self2)); done) | (with_reducible apply Lo.ne'; (repeat (first | with_reducible assumption | with_reducible apply Lo.self | with_reducible apply Lo.new | with_reducible apply Lo.set | with_reducible apply Lo.self1 | with_reducible apply Lo.self2)); done) | (with_reducible apply Lo.ne1'; (repeat (first | with_reducible assumption | with_reducible apply Lo.self | with_reducible apply Lo.new | with_reducible apply Lo.set | with_reducible apply Lo.self1 | with_reducible apply Lo.self2)); done)); done))))); (· exact rfl); (· exact rfl); (· exact rfl))
        | (apply op_at; (· exact opD_eqb rfl rfl rfl rfl))
        | (apply op_at; (· exact opD_neqb rfl rfl rfl rfl))
        | (apply op_at; (· exact rfl))
        | refine dwp_draw _ rfl ?_
        | apply draw_nil
        | (apply all_and; (· kernel_rfl))
        | (apply was_and; (· kernel_rfl))
        | (apply draw_pure; (· (first | exact wanted_plain rfl | (apply wanted_on; (· exact rfl); (· exact rfl); (· (first | with_reducible assumption | with_reducible rfl | decide))))); (· exact rfl); (· exact rfl))
        | (apply draw_read; (· (first | exact wanted_plain rfl | (apply wanted_on; (· exact rfl); (· exact rfl); (· (first | with_reducible assumption | with_reducible rfl | decide))))); (· exact rfl); (· exact rfl))
        | (apply draw_move; (· (first | exact wanted_plain rfl | (apply wanted_on; (· exact rfl); (· exact rfl); (· (first | with_reducible assumption | with_reducible rfl | decide))))); (· exact rfl))
        | (apply draw_off; (· (first | (apply wanted_off1; (· exact rfl); (· exact rfl); (· (first | with_reducible assumption | with_reducible rfl | decide))) | (apply wanted_off0; (· exact rfl); (· exact rfl); (· (first | with_reducible assumption | with_reducible rfl | decide))) | (apply wanted_none; (· exact rfl); (· exact rfl)))))
        | (apply dwp_cond_t; (· exact rfl); (· (first | with_reducible assumption | with_reducible rfl | decide)))
        | (apply dwp_cond_f; (· exact rfl); (· (first | with_reducible assumption | with_reducible rfl | decide)))
        | (refine dwp_cond rfl ?_ ?_ <;> intro hb)
        | apply dwp_block
        | apply dwp_skip
        | apply dwp_ret
        | apply dwp_exit
        | (refine ⟨_, rfl, ?_⟩)
        | fail)
      refine ⟨hab0.trans hab3, ?_⟩
      have e : (l.take k).map Item.cells ++ [x.cells] ++ (l.drop k).map Item.cells = (putL l x).map Item.cells := by rw [putL_at hk hbef hex]; simp
      rw [e] at hm3
      exact (mine_itsF_ne hm3 (by intro h; have := putL_length l x; rw [h] at this; simp at this) (by rw [putL_length]; unfold maxLen; omega)).older (Nat.le_succ _)
    | false =>
      repeat' (first
        | dsimp only [putD, DV.cells, DH.new_next, DH.set_next, List.length_cons, List.length_nil, Nat.reduceAdd, List.set_cons_zero, List.set_cons_succ, getD_zero, getD_succ, fieldAt_zero, fieldAt_succ, thenD, blockD, retR]
        | apply dwp_seq
        | apply dwp_region
        | apply ops_nil
        | (apply ops_plain; (· exact rfl))
        | (apply ops_on; (· exact rfl); (· exact rfl); (· (first | with_reducible assumption | with_reducible rfl | decide)))
        | (apply ops_off1; (· exact rfl); (· exact rfl); (· (first | with_reducible assumption | with_reducible rfl | decide)))
        | (apply ops_off0; (· exact rfl); (· exact rfl); (· (first | with_reducible assumption | with_reducible rfl | decide)))
        | (apply ops_offn; (· exact rfl); (· exact rfl))
        | (apply ops_split1; (· exact rfl); (· exact rfl); all_goals intro hb)
        | (apply ops_split0; (· exact rfl); (· exact rfl); all_goals intro hb)
        | (apply op_call; (· exact rfl); (· exact rfl); (· exact rfl); refine rless_call4 ?_; rw [hxy])
        | (apply op_pick_t; (· exact rfl); (· exact rfl); (· (first | with_reducible assumption | with_reducible rfl | decide)); (· exact rfl))
        | (apply op_pick_f; (· exact rfl); (· exact rfl); (· (first | with_reducible assumption | with_reducible rfl | decide)); (· exact rfl))
        | (apply op_index_at; (· exact rfl); (· exact rfl); (· exact rfl); (· with_reducible exact hin1); (· exact rfl); (· exact rfl))
        | (apply op_load_at; (· exact rfl); (· exact rfl); (· with_reducible exact ho); (· with_reducible exact hr1); (· exact (item_part y)))
        | (apply op_load_at; (· exact rfl); (· exact rfl); (· repeat (first | with_reducible assumption | (with_reducible apply obj_here; with_reducible rfl) | with_reducible apply obj_set | (with_reducible apply obj_skip_lo; (· ((repeat (first | with_reducible assumption | with_reducible apply Lo.self | with_reducible apply Lo.new | with_reducible apply Lo.set | with_reducible apply Lo.self1 | with_reducible apply Lo.self2)); done))) | (with_reducible apply obj_past; (· ((first | with_reducible assumption | with_reducible apply ne_add1 | with_reducible apply ne_add1' | with_reducible apply ne_add2 | with_reducible apply ne_add2' | with_reducible apply ne_add12 | with_reducible apply ne_add21 | (with_reducible apply Lo.ne; (repeat (first | with_reducible assumption | with_reducible apply Lo.self | with_reducible apply Lo.new | with_reducible apply Lo.set | with_reducible apply Lo.self1 | with_reducible apply Lo.self2)); done) | (with_reducible apply Lo.ne1; (repeat (first | with_reducible assumption | with_reducible apply Lo.self | with_reducible apply Lo.new | with_reducible apply Lo.set | with_reducible apply Lo.self1 | with_reducible apply Lo.self2)); done) | (with_reducible apply Lo.ne'; (repeat (first | with_reducible assumption | with_reducible apply Lo.self | with_reducible apply Lo.new | with_reducible apply Lo.set | with_reducible apply Lo.self1 | with_reducible apply Lo.self2)); done) | (with_reducible apply Lo.ne1'; (repeat (first | with_reducible assumption | with_reducible apply Lo.self | with_reducible apply Lo.new | with_reducible apply Lo.set | with_reducible apply Lo.self1 | with_reducible apply Lo.self2)); done)); done))))); (· exact rfl); (· exact item_part x))
        | (apply op_load_at; (· exact rfl); (· exact rfl); (· repeat (first | with_reducible assumption | (with_reducible apply obj_here; with_reducible rfl) | with_reducible apply obj_set | (with_reducible apply obj_skip_lo; (· ((repeat (first | with_reducible assumption | with_reducible apply Lo.self | with_reducible apply Lo.new | with_reducible apply Lo.set | with_reducible apply Lo.self1 | with_reducible apply Lo.self2)); done))) | (with_reducible apply obj_past; (· ((first | with_reducible assumption | with_reducible apply ne_add1 | with_reducible apply ne_add1' | with_reducible apply ne_add2 | with_reducible apply ne_add2' | with_reducible apply ne_add12 | with_reducible apply ne_add21 | (with_reducible apply Lo.ne; (repeat (first | with_reducible assumption | with_reducible apply Lo.self | with_reducible apply Lo.new | with_reducible apply Lo.set | with_reducible apply Lo.self1 | with_reducible apply Lo.self2)); done) | (with_reducible apply Lo.ne1; (repeat (first | with_reducible assumption | with_reducible apply Lo.self | with_reducible apply Lo.new | with_reducible apply Lo.set | with_reducible apply Lo.self1 | with_reducible apply Lo.self2)); done) | (with_reducible apply Lo.ne'; (repeat (first | with_reducible assumption | with_reducible apply Lo.self | with_reducible apply Lo.new | with_reducible apply Lo.set | with_reducible apply Lo.self1 | with_reducible apply Lo.self2)); done) | (with_reducible apply Lo.ne1'; (repeat (first | with_reducible assumption | with_reducible apply Lo.self | with_reducible apply Lo.new | with_reducible apply Lo.set | with_reducible apply Lo.self1 | with_reducible apply Lo.self2)); done)); done))))); (· exact rfl); (· exact rfl))
        | (apply op_store_at; (· exact rfl); (· exact rfl); (· exact rfl); (· repeat (first | with_reducible assumption | (with_reducible apply obj_here; with_reducible rfl) | with_reducible apply obj_set | (with_reducible apply obj_skip_lo; (· ((repeat (first | with_reducible assumption | with_reducible apply Lo.self | with_reducible apply Lo.new | with_reducible apply Lo.set | with_reducible apply Lo.self1 | with_reducible apply Lo.self2)); done))) | (with_reducible apply obj_past; (· ((first | with_reducible assumption | with_reducible apply ne_add1 | with_reducible apply ne_add1' | with_reducible apply ne_add2 | with_reducible apply ne_add2' | with_reducible apply ne_add12 | with_reducible apply ne_add21 | (with_reducible apply Lo.ne; (repeat (first | with_reducible assumption | with_reducible apply Lo.self | with_reducible apply Lo.new | with_reducible apply Lo.set | with_reducible apply Lo.self1 | with_reducible apply Lo.self2)); done) | (with_reducible apply Lo.ne1; (repeat (first | with_reducible assumption | with_reducible apply Lo.self | with_reducible apply Lo.new | with_reducible apply Lo.set | with_reducible apply Lo.self1 | with_reducible apply Lo.self2)); done) | (with_reducible apply Lo.ne'; (repeat (first | with_reducible assumption | with_reducible apply Lo.self | with_reducible apply Lo.new | with_reducible apply Lo.set | with_reducible apply Lo.self1 | with_reducible apply Lo.self2)); done) | (with_reducible apply Lo.ne1'; (repeat (first | with_reducible assumption | with_reducible apply Lo.self | with_reducible apply Lo.new | with_reducible apply Lo.set | with_reducible apply Lo.self1 | with_reducible apply Lo.self2)); done)); done))))); (· exact rfl); (· exact rfl); (· exact rfl))
        | (apply op_at; (· exact opD_eqb rfl rfl rfl rfl))
        | (apply op_at; (· exact opD_neqb rfl rfl rfl rfl))
        | (apply op_at; (· exact rfl))
        | refine dwp_draw _ rfl ?_
        | apply draw_nil
        | (apply all_and; (· kernel_rfl))
        | (apply was_and; (· kernel_rfl))
        | (apply draw_pure; (· (first | exact wanted_plain rfl | (apply wanted_on; (· exact rfl); (· exact rfl); (· (first | with_reducible assumption | with_reducible rfl | decide))))); (· exact rfl); (· exact rfl))
        | (apply draw_read; (· (first | exact wanted_plain rfl | (apply wanted_on; (· exact rfl); (· exact rfl); (· (first | with_reducible assumption | with_reducible rfl | decide))))); (· exact rfl); (· exact rfl))
        | (apply draw_move; (· (first | exact wanted_plain rfl | (apply wanted_on; (· exact rfl); (· exact rfl); (· (first | with_reducible assumption | with_reducible rfl | decide))))); (· exact rfl))
        | (apply draw_off; (· (first | (apply wanted_off1; (· exact rfl); (· exact rfl); (· (first | with_reducible assumption | with_reducible rfl | decide))) | (apply wanted_off0; (· exact rfl); (· exact rfl); (· (first | with_reducible assumption | with_reducible rfl | decide))) | (apply wanted_none; (· exact rfl); (· exact rfl)))))
        | (apply dwp_cond_t; (· exact rfl); (· (first | with_reducible assumption | with_reducible rfl | decide)))
        | (apply dwp_cond_f; (· exact rfl); (· (first | with_reducible assumption | with_reducible rfl | decide)))
        | (refine dwp_cond rfl ?_ ?_ <;> intro hb)
        | apply dwp_block
        | apply dwp_skip
        | apply dwp_ret
        | apply dwp_exit
        | (refine ⟨_, rfl, ?_⟩)
        | fail)
      rw [hw]
      refine ⟨⟨k + 1, junk_facts (⟨by omega, fun j z h1 h2 => ?_⟩) rfl rfl⟩, ?_⟩
      · by_cases e : j = k
        · subst e; rw [hy] at h2; cases h2; exact hxy
        · exact hbef j z (by omega) h2
      · show l.length - ((k + 1 : Nat) : Int).toNat < l.length - (k : Int).toNat
        omega
  · have hc : decide ((k : Int) < (l.length : Int)) = false := by simp; omega
    obtain rfl : k = l.length := by omega
    have hex : ∀ z, l[l.length]? = some z → ilt x z = true := fun z hz => by simp at hz
    cases p with
    | none =>
      have h0 : l = [] := by simpa using hl.sl.none_len
      subst h0
      obtain ⟨rfl, rfl⟩ := hl.nil rfl
      have hnewA : appendedD Try.prog 26 (H.new (.rows false 6 [x.cells])) (Try.prog.underlying 23) (.sl none 0 0 true) = some (([] : List Item).map Item.cells) := (It.nil0 _).appended Try.underlying23
      have hnewB : ∀ H', Above (H.new (.rows false 6 [x.cells])) H' → appendedD Try.prog 26 H' (Try.prog.underlying 23) (.sl none 0 0 true) = some (([] : List Item).map Item.cells) := fun H' h => (It.nil0 _).appended Try.underlying23
      repeat' (first
        | dsimp only [putD, DV.cells, DH.new_next, DH.set_next, List.length_cons, List.length_nil, Nat.reduceAdd, List.set_cons_zero, List.set_cons_succ, getD_zero, getD_succ, fieldAt_zero, fieldAt_succ, thenD, blockD, retR]
        | apply dwp_seq
        | apply dwp_region
        | apply ops_nil
        | (apply ops_plain; (· exact rfl))
        | (apply ops_on; (· exact rfl); (· exact rfl); (· (first | with_reducible assumption | with_reducible rfl | decide)))
        | (apply ops_off1; (· exact rfl); (· exact rfl); (· (first | with_reducible assumption | with_reducible rfl | decide)))
        | (apply ops_off0; (· exact rfl); (· exact rfl); (· (first | with_reducible assumption | with_reducible rfl | decide)))
        | (apply ops_offn; (· exact rfl); (· exact rfl))
        | (apply ops_split1; (· exact rfl); (· exact rfl); all_goals intro hb)
        | (apply ops_split0; (· exact rfl); (· exact rfl); all_goals intro hb)
        | (apply op_pick_t; (· exact rfl); (· exact rfl); (· (first | with_reducible assumption | with_reducible rfl | decide)); (· exact rfl))
        | (apply op_pick_f; (· exact rfl); (· exact rfl); (· (first | with_reducible assumption | with_reducible rfl | decide)); (· exact rfl))
        | (refine op_append_fresh (xt := 23) rfl rfl rfl E23 hnewA (cells_all _) (Nat.zero_le _) ?_; intro s1 H1 hm1 hab1 hfr1; have hbox1 := hab1.obj (l := H.next) (Nat.lt_succ_self _) (obj_here rfl); have hm1' := hm1.mono ((Above.refl H1).new (.rows false 6 [x.cells])))
        | (refine op_append (xt := 23) (new := [x.cells]) rfl rfl rfl E23 hm1' (hab1.new _) (appended_sl Try.underlying23 Sl.fresh _ _) rfl (by show 1 ≤ mostD; unfold mostD; omega) ?_; intro s2 H2 hm2 hab2 hax2 hfr2)
        | (refine op_append (xt := 23) rfl rfl rfl E23 hm2 hab2 (hnewB _ hab2) (cells_all _) (by show 1 ≤ mostD; unfold mostD; omega) ?_; intro s3 H3 hm3 hab3 hax3 hfr3)
        | (apply op_load_at; (· exact rfl); (· exact rfl); (· repeat (first | with_reducible assumption | (with_reducible apply obj_here; with_reducible rfl) | with_reducible apply obj_set | (with_reducible apply obj_skip_lo; (· ((repeat (first | with_reducible assumption | with_reducible apply Lo.self | with_reducible apply Lo.new | with_reducible apply Lo.set | with_reducible apply Lo.self1 | with_reducible apply Lo.self2)); done))) | (with_reducible apply obj_past; (· ((first | with_reducible assumption | with_reducible apply ne_add1 | with_reducible apply ne_add1' | with_reducible apply ne_add2 | with_reducible apply ne_add2' | with_reducible apply ne_add12 | with_reducible apply ne_add21 | (with_reducible apply Lo.ne; (repeat (first | with_reducible assumption | with_reducible apply Lo.self | with_reducible apply Lo.new | with_reducible apply Lo.set | with_reducible apply Lo.self1 | with_reducible apply Lo.self2)); done) | (with_reducible apply Lo.ne1; (repeat (first | with_reducible assumption | with_reducible apply Lo.self | with_reducible apply Lo.new | with_reducible apply Lo.set | with_reducible apply Lo.self1 | with_reducible apply Lo.self2)); done) | (with_reducible apply Lo.ne'; (repeat (first | with_reducible assumption | with_reducible apply Lo.self | with_reducible apply Lo.new | with_reducible apply Lo.set | with_reducible apply Lo.self1 | with_reducible apply Lo.self2)); done) | (with_reducible apply Lo.ne1'; (repeat (first | with_reducible assumption | with_reducible apply Lo.self | with_reducible apply Lo.new | with_reducible apply Lo.set | with_reducible apply Lo.self1 | with_reducible apply Lo.self2)); done)); done))))); (· exact rfl); (· exact rfl))
        | (apply op_store_at; (· exact rfl); (· exact rfl); (· exact rfl); (· repeat (first | with_reducible assumption | (with_reducible apply obj_here; with_reducible rfl) | with_reducible apply obj_set | (with_reducible apply obj_skip_lo; (· ((repeat (first | with_reducible assumption | with_reducible apply Lo.self | with_reducible apply Lo.new | with_reducible apply Lo.set | with_reducible apply Lo.self1 | with_reducible apply Lo.self2)); done))) | (with_reducible apply obj_past; (· ((first | with_reducible assumption | with_reducible apply ne_add1 | with_reducible apply ne_add1' | with_reducible apply ne_add2 | with_reducible apply ne_add2' | with_reducible apply ne_add12 | with_reducible apply ne_add21 | (with_reducible apply Lo.ne; (repeat (first | with_reducible assumption | with_reducible apply Lo.self | with_reducible apply Lo.new | with_reducible apply Lo.set | with_reducible apply Lo.self1 | with_reducible apply Lo.self2)); done) | (with_reducible apply Lo.ne1; (repeat (first | with_reducible assumption | with_reducible apply Lo.self | with_reducible apply Lo.new | with_reducible apply Lo.set | with_reducible apply Lo.self1 | with_reducible apply Lo.self2)); done) | (with_reducible apply Lo.ne'; (repeat (first | with_reducible assumption | with_reducible apply Lo.self | with_reducible apply Lo.new | with_reducible apply Lo.set | with_reducible apply Lo.self1 | with_reducible apply Lo.self2)); done) | (with_reducible apply Lo.ne1'; (repeat (first | with_reducible assumption | with_reducible apply Lo.self | with_reducible apply Lo.new | with_reducible apply Lo.set | with_reducible apply Lo.self1 | with_reducible apply Lo.self2)); done)); done))))); (· exact rfl); (· exact rfl); (· exact rfl))
        | (apply op_at; (· exact opD_eqb rfl rfl rfl rfl))
        | (apply op_at; (· exact opD_neqb rfl rfl rfl rfl))
        | (apply op_at; (· exact rfl))
        | refine dwp_draw _ rfl ?_
        | apply draw_nil
        | (apply all_and; (· kernel_rfl))
        | (apply was_and; (· kernel_rfl))
        | (apply draw_pure; (· (first | exact wanted_plain rfl | (apply wanted_on; (· exact rfl); (· exact rfl); (· (first | with_reducible assumption | with_reducible rfl | decide))))); (· exact rfl); (· exact rfl))
        | (apply draw_read; (· (first | exact wanted_plain rfl | (apply wanted_on; (· exact rfl); (· exact rfl); (· (first | with_reducible assumption | with_reducible rfl | decide))))); (· exact rfl); (· exact rfl))
        | (apply draw_move; (· (first | exact wanted_plain rfl | (apply wanted_on; (· exact rfl); (· exact rfl); (· (first | with_reducible assumption | with_reducible rfl | decide))))); (· exact rfl))
        | (apply draw_off; (· (first | (apply wanted_off1; (· exact rfl); (· exact rfl); (· (first | with_reducible assumption | with_reducible rfl | decide))) | (apply wanted_off0; (· exact rfl); (· exact rfl); (· (first | with_reducible assumption | with_reducible rfl | decide))) | (apply wanted_none; (· exact rfl); (· exact rfl)))))
        | (apply dwp_cond_t; (· exact rfl); (· (first | with_reducible assumption | with_reducible rfl | decide)))
        | (apply dwp_cond_f; (· exact rfl); (· (first | with_reducible assumption | with_reducible rfl | decide)))
        | (refine dwp_cond rfl ?_ ?_ <;> intro hb)
        | apply dwp_block
        | apply dwp_skip
        | apply dwp_ret
        | apply dwp_exit
        | (refine ⟨_, rfl, ?_⟩)
        | fail)
      refine ⟨hab0.trans hab3, ?_⟩
      have e : ([] : List Item).map Item.cells ++ [x.cells] ++ ([] : List Item).map Item.cells = (putL [] x).map Item.cells := rfl
      rw [e] at hm3
      exact (mine_itsF_ne hm3 (by intro h; cases h) (by unfold maxLen; show 1 ≤ _; omega)).older (Nat.le_succ _)
    | some q =>
      obtain ⟨loc, i0, z⟩ := q
      have hz := hl.sl.size
      subst hz
      generalize hkk : l.length = k at *
      have hcap := hl.cap
      have hinh : 0 ≤ (k : Int) ∧ (k : Int) ≤ (c : Int) := by omega
      have hinl : 0 ≤ (k : Int) ∧ (k : Int) ≤ (k : Int) := by omega
      have hnewA := hl0.take (k := k) (by omega) Try.underlying23
      have hnewB : ∀ H', Above (H.new (.rows false 6 [x.cells])) H' → appendedD Try.prog 26 H' (Try.prog.underlying 23) (.sl (some (loc, i0 + ((k : Int)).toNat, 6)) (k - ((k : Int)).toNat) (c - ((k : Int)).toNat) ex) = some ((l.drop k).map Item.cells) := fun H' h => by have h9 := (hl0.mono h).drop (k := k) (by omega) Try.underlying23; rw [hkk] at h9; exact h9
      repeat' (first
        | dsimp only [putD, DV.cells, DH.new_next, DH.set_next, List.length_cons, List.length_nil, Nat.reduceAdd, List.set_cons_zero, List.set_cons_succ, getD_zero, getD_succ, fieldAt_zero, fieldAt_succ, thenD, blockD, retR]
        | apply dwp_seq
        | apply dwp_region
        | apply ops_nil
        | (apply ops_plain; (· exact rfl))
        | (apply ops_on; (· exact rfl); (· exact rfl); (· (first | with_reducible assumption | with_reducible rfl | decide)))
        | (apply ops_off1; (· exact rfl); (· exact rfl); (· (first | with_reducible assumption | with_reducible rfl | decide)))
        | (apply ops_off0; (· exact rfl); (· exact rfl); (· (first | with_reducible assumption | with_reducible rfl | decide)))
        | (apply ops_offn; (· exact rfl); (· exact rfl))
        | (apply ops_split1; (· exact rfl); (· exact rfl); all_goals intro hb)
        | (apply ops_split0; (· exact rfl); (· exact rfl); all_goals intro hb)
        | (apply op_pick_t; (· exact rfl); (· exact rfl); (· (first | with_reducible assumption | with_reducible rfl | decide)); (· exact rfl))
        | (apply op_pick_f; (· exact rfl); (· exact rfl); (· (first | with_reducible assumption | with_reducible rfl | decide)); (· exact rfl))
        | (refine op_append_fresh (xt := 23) rfl rfl rfl E23 hnewA (cells_all _) (by rw [List.length_map, List.length_take]; unfold mostD; omega) ?_; intro s1 H1 hm1 hab1 hfr1; have hbox1 := hab1.obj (l := H.next) (Nat.lt_succ_self _) (obj_here rfl); have hm1' := hm1.mono ((Above.refl H1).new (.rows false 6 [x.cells])))
        | (refine op_append (xt := 23) (new := [x.cells]) rfl rfl rfl E23 hm1' (hab1.new _) (appended_sl Try.underlying23 Sl.fresh _ _) rfl (by rw [List.length_map, List.length_take]; show _ + 1 ≤ mostD; unfold mostD; omega) ?_; intro s2 H2 hm2 hab2 hax2 hfr2)
        | (refine op_append (xt := 23) rfl rfl rfl E23 hm2 hab2 (hnewB _ hab2) (cells_all _) (by rw [List.length_append, List.length_map, List.length_map, List.length_take, List.length_drop]; show _ + 1 + _ ≤ mostD; unfold mostD; omega) ?_; intro s3 H3 hm3 hab3 hax3 hfr3)
        | (apply op_at; (· exact opD_slice_hi rfl rfl rfl rfl rfl hinh))
        | (apply op_at; (· exact opD_slice_lo rfl rfl rfl rfl rfl hinl))
        | (apply op_load_at; (· exact rfl); (· exact rfl); (· repeat (first | with_reducible assumption | (with_reducible apply obj_here; with_reducible rfl) | with_reducible apply obj_set | (with_reducible apply obj_skip_lo; (· ((repeat (first | with_reducible assumption | with_reducible apply Lo.self | with_reducible apply Lo.new | with_reducible apply Lo.set | with_reducible apply Lo.self1 | with_reducible apply Lo.self2)); done))) | (with_reducible apply obj_past; (· ((first | with_reducible assumption | with_reducible apply ne_add1 | with_reducible apply ne_add1' | with_reducible apply ne_add2 | with_reducible apply ne_add2' | with_reducible apply ne_add12 | with_reducible apply ne_add21 | (with_reducible apply Lo.ne; (repeat (first | with_reducible assumption | with_reducible apply Lo.self | with_reducible apply Lo.new | with_reducible apply Lo.set | with_reducible apply Lo.self1 | with_reducible apply Lo.self2)); done) | (with_reducible apply Lo.ne1; (repeat (first | with_reducible assumption | with_reducible apply Lo.self | with_reducible apply Lo.new | with_reducible apply Lo.set | with_reducible apply Lo.self1 | with_reducible apply Lo.self2)); done) | (with_reducible apply Lo.ne'; (repeat (first | with_reducible assumption | with_reducible apply Lo.self | with_reducible apply Lo.new | with_reducible apply Lo.set | with_reducible apply Lo.self1 | with_reducible apply Lo.self2)); done) | (with_reducible apply Lo.ne1'; (repeat (first | with_reducible assumption | with_reducible apply Lo.self | with_reducible apply Lo.new | with_reducible apply Lo.set | with_reducible apply Lo.self1 | with_reducible apply Lo.self2)); done)); done))))); (· exact rfl); (· exact rfl))
        | (apply op_store_at; (· exact rfl); (· exact rfl); (· exact rfl); (· repeat (first | with_reducible assumption | (with_reducible apply obj_here; with_reducible rfl) | with_reducible apply obj_set | (with_reducible apply obj_skip_lo; (· ((repeat (first | with_reducible assumption | with_reducible apply Lo.self | with_reducible apply Lo.new | with_reducible apply Lo.set | with_reducible apply Lo.self1 | with_reducible apply Lo.self2)); done))) | (with_reducible apply obj_past; (· ((first | with_reducible assumption | with_reducible apply ne_add1 | with_reducible apply ne_add1' | with_reducible apply ne_add2 | with_reducible apply ne_add2' | with_reducible apply ne_add12 | with_reducible apply ne_add21 | (with_reducible apply Lo.ne; (repeat (first | with_reducible assumption | with_reducible apply Lo.self | with_reducible apply Lo.new | with_reducible apply Lo.set | with_reducible apply Lo.self1 | with_reducible apply Lo.self2)); done) | (with_reducible apply Lo.ne1; (repeat (first | with_reducible assumption | with_reducible apply Lo.self | with_reducible apply Lo.new | with_reducible apply Lo.set | with_reducible apply Lo.self1 | with_reducible apply Lo.self2)); done) | (with_reducible apply Lo.ne'; (repeat (first | with_reducible assumption | with_reducible apply Lo.self | with_reducible apply Lo.new | with_reducible apply Lo.set | with_reducible apply Lo.self1 | with_reducible apply Lo.self2)); done) | (with_reducible apply Lo.ne1'; (repeat (first | with_reducible assumption | with_reducible apply Lo.self | with_reducible apply Lo.new | with_reducible apply Lo.set | with_reducible apply Lo.self1 | with_reducible apply Lo.self2)); done)); done))))); (· exact rfl); (· exact rfl); (· exact rfl))
        | (apply op_at; (· exact opD_eqb rfl rfl rfl rfl))
        | (apply op_at; (· exact opD_neqb rfl rfl rfl rfl))
        | (apply op_at; (· exact rfl))
        | refine dwp_draw _ rfl ?_
        | apply draw_nil
        | (apply all_and; (· kernel_rfl))
        | (apply was_and; (· kernel_rfl))
        | (apply draw_pure; (· (first | exact wanted_plain rfl | (apply wanted_on; (· exact rfl); (· exact rfl); (· (first | with_reducible assumption | with_reducible rfl | decide))))); (· exact rfl); (· exact rfl))
        | (apply draw_read; (· (first | exact wanted_plain rfl | (apply wanted_on; (· exact rfl); (· exact rfl); (· (first | with_reducible assumption | with_reducible rfl | decide))))); (· exact rfl); (· exact rfl))
        | (apply draw_move; (· (first | exact wanted_plain rfl | (apply wanted_on; (· exact rfl); (· exact rfl); (· (first | with_reducible assumption | with_reducible rfl | decide))))); (· exact rfl))
        | (apply draw_off; (· (first | (apply wanted_off1; (· exact rfl); (· exact rfl); (· (first | with_reducible assumption | with_reducible rfl | decide))) | (apply wanted_off0; (· exact rfl); (· exact rfl); (· (first | with_reducible assumption | with_reducible rfl | decide))) | (apply wanted_none; (· exact rfl); (· exact rfl)))))
        | (apply dwp_cond_t; (· exact rfl); (· (first | with_reducible assumption | with_reducible rfl | decide)))
        | (apply dwp_cond_f; (· exact rfl); (· (first | with_reducible assumption | with_reducible rfl | decide)))
        | (refine dwp_cond rfl ?_ ?_ <;> intro hb)
        | apply dwp_block
        | apply dwp_skip
        | apply dwp_ret
        | apply dwp_exit
        | (refine ⟨_, rfl, ?_⟩)
        | fail)
      refine ⟨hab0.trans hab3, ?_⟩
      have e : (l.take k).map Item.cells ++ [x.cells] ++ (l.drop k).map Item.cells = (putL l x).map Item.cells := by rw [putL_at (by omega) hbef hex]; simp
      rw [e] at hm3
      exact (mine_itsF_ne hm3 (by intro h; have := putL_length l x; rw [h] at this; simp at this) (by rw [putL_length]; unfold maxLen; omega)).older (Nat.le_succ _)
end Go.Det.Q

/- One's own slice grows: where it leads to. -/
namespace Go.Det
set_option linter.unusedVariables false
set_option linter.unusedSimpArgs false
section
variable {P : Program} {X : Ext} {st e : TypeId} {z by_ : Nat} {z0 : DV}
/-- Something to be shown later. -/
structure Hold (p : Prop) : Prop where
  h : p
end
end Go.Det

/- Heaps, by the document's reference: sorted, with a thing more, without one. -/
namespace Go.Det.Q
open Go Go.Det Go.Proofs
set_option maxRecDepth 4000
set_option maxHeartbeats 4000000
set_option linter.unusedVariables false
set_option linter.unusedSimpArgs false
def sortL (l : List Item) : List Item := l.foldl putL []
theorem foldl_putL_length : ∀ (l m : List Item), (l.foldl putL m).length = m.length + l.length
  | [], m => rfl
  | x :: l, m => by rw [List.foldl_cons, foldl_putL_length l, putL_length, List.length_cons]; omega
theorem sortL_length (l : List Item) : (sortL l).length = l.length := by unfold sortL; rw [foldl_putL_length]; simp
theorem sortL_step {l : List Item} {k : Nat} {x : Item} (hx : l[k]? = some x) : sortL (l.take (k + 1)) = putL (sortL (l.take k)) x := by
  unfold sortL
  rw [List.take_add_one, hx, List.foldl_append]
  rfl
theorem sorted22 (H : DH) (p : Option (Nat × Nat × Nat)) (c : Nat) (ex : Bool) (l : List Item) (hl : It H p c ex l) (hn : l.length ≤ 1000000) :
    CallWp Try.prog X4 22 [.sl p l.length c ex] H (fun r H' => Above H H' ∧ ItsF H H' r (sortL l)) := by
  refine enter rfl Try.func22 rfl Try.ntmps22 rfl ?_
  dsimp only [List.cons_append, List.nil_append, List.length_cons, List.length_nil, List.replicate_succ, List.replicate_zero, Nat.reduceAdd, Nat.reduceSub]
  repeat' (first
    | dsimp only [putD, DV.cells, DH.new_next, DH.set_next, List.length_cons, List.length_nil, Nat.reduceAdd, List.set_cons_zero, List.set_cons_succ, getD_zero, getD_succ, fieldAt_zero, fieldAt_succ, thenD, blockD, retR]
    | apply dwp_seq
    | apply dwp_region
    | apply ops_nil
    | (apply ops_plain; (· exact rfl))
    | (apply ops_on; (· exact rfl); (· exact rfl); (· (first | with_reducible assumption | with_reducible rfl | decide)))
    | (apply ops_off1; (· exact rfl); (· exact rfl); (· (first | with_reducible assumption | with_reducible rfl | decide)))
    | (apply ops_off0; (· exact rfl); (· exact rfl); (· (first | with_reducible assumption | with_reducible rfl | decide)))
    | (apply ops_offn; (· exact rfl); (· exact rfl))
    | (apply ops_split1; (· exact rfl); (· exact rfl); all_goals intro hb)
    | (apply ops_split0; (· exact rfl); (· exact rfl); all_goals intro hb)
    | (apply op_pick_t; (· exact rfl); (· exact rfl); (· (first | with_reducible assumption | with_reducible rfl | decide)); (· exact rfl))
    | (apply op_pick_f; (· exact rfl); (· exact rfl); (· (first | with_reducible assumption | with_reducible rfl | decide)); (· exact rfl))
    | (apply op_load_at; (· exact rfl); (· exact rfl); (· repeat (first | with_reducible assumption | (with_reducible apply obj_here; with_reducible rfl) | with_reducible apply obj_set | (with_reducible apply obj_skip_lo; (· ((repeat (first | with_reducible assumption | with_reducible apply Lo.self | with_reducible apply Lo.new | with_reducible apply Lo.set | with_reducible apply Lo.self1 | with_reducible apply Lo.self2)); done))) | (with_reducible apply obj_past; (· ((first | with_reducible assumption | with_reducible apply ne_add1 | with_reducible apply ne_add1' | with_reducible apply ne_add2 | with_reducible apply ne_add2' | with_reducible apply ne_add12 | with_reducible apply ne_add21 | (with_reducible apply Lo.ne; (repeat (first | with_reducible assumption | with_reducible apply Lo.self | with_reducible apply Lo.new | with_reducible apply Lo.set | with_reducible apply Lo.self1 | with_reducible apply Lo.self2)); done) | (with_reducible apply Lo.ne1; (repeat (first | with_reducible assumption | with_reducible apply Lo.self | with_reducible apply Lo.new | with_reducible apply Lo.set | with_reducible apply Lo.self1 | with_reducible apply Lo.self2)); done) | (with_reducible apply Lo.ne'; (repeat (first | with_reducible assumption | with_reducible apply Lo.self | with_reducible apply Lo.new | with_reducible apply Lo.set | with_reducible apply Lo.self1 | with_reducible apply Lo.self2)); done) | (with_reducible apply Lo.ne1'; (repeat (first | with_reducible assumption | with_reducible apply Lo.self | with_reducible apply Lo.new | with_reducible apply Lo.set | with_reducible apply Lo.self1 | with_reducible apply Lo.self2)); done)); done))))); (· exact rfl); (· exact rfl))
    | (apply op_store_at; (· exact rfl); (· exact rfl); (· exact rfl); (· repeat (first | with_reducible assumption | (with_reducible apply obj_here; with_reducible rfl) | with_reducible apply obj_set | (with_reducible apply obj_skip_lo; (· ((repeat (first | with_reducible assumption | with_reducible apply Lo.self | with_reducible apply Lo.new | with_reducible apply Lo.set | with_reducible apply Lo.self1 | with_reducible apply Lo.self2)); done))) | (with_reducible apply obj_past; (· ((first | with_reducible assumption | with_reducible apply ne_add1 | with_reducible apply ne_add1' | with_reducible apply ne_add2 | with_reducible apply ne_add2' | with_reducible apply ne_add12 | with_reducible apply ne_add21 | (with_reducible apply Lo.ne; (repeat (first | with_reducible assumption | with_reducible apply Lo.self | with_reducible apply Lo.new | with_reducible apply Lo.set | with_reducible apply Lo.self1 | with_reducible apply Lo.self2)); done) | (with_reducible apply Lo.ne1; (repeat (first | with_reducible assumption | with_reducible apply Lo.self | with_reducible apply Lo.new | with_reducible apply Lo.set | with_reducible apply Lo.self1 | with_reducible apply Lo.self2)); done) | (with_reducible apply Lo.ne'; (repeat (first | with_reducible assumption | with_reducible apply Lo.self | with_reducible apply Lo.new | with_reducible apply Lo.set | with_reducible apply Lo.self1 | with_reducible apply Lo.self2)); done) | (with_reducible apply Lo.ne1'; (repeat (first | with_reducible assumption | with_reducible apply Lo.self | with_reducible apply Lo.new | with_reducible apply Lo.set | with_reducible apply Lo.self1 | with_reducible apply Lo.self2)); done)); done))))); (· exact rfl); (· exact rfl); (· exact rfl))
    | (apply op_at; (· exact opD_eqb rfl rfl rfl rfl))
    | (apply op_at; (· exact opD_neqb rfl rfl rfl rfl))
    | (apply op_at; (· exact rfl))
    | (apply dwp_cond_t; (· exact rfl); (· (first | with_reducible assumption | with_reducible rfl | decide)))
    | (apply dwp_cond_f; (· exact rfl); (· (first | with_reducible assumption | with_reducible rfl | decide)))
    | (refine dwp_cond rfl ?_ ?_ <;> intro hb)
    | apply dwp_block
    | apply dwp_skip
    | apply dwp_ret
    | apply dwp_exit
    | (refine ⟨_, rfl, ?_⟩)
    | fail)
  refine dwp_loop (fun st => ∃ (Hk : DH) (k : Nat) (s : DV), ∃ J : Nat → DV, (k ≤ l.length ∧ Above H Hk ∧ ItsF H Hk s (sortL (l.take k))) ∧ st = ⟨[.sl p l.length c ex, J 1, J 2, s, J 4, J 5, .sl p l.length c ex, .int .i64 l.length, .int .i64 (k : Int), J 9, J 10, J 11, J 12, J 13, J 14, J 15, J 16], Hk⟩) (fun st => l.length - kOf st 8) (⟨H, 0, _, junk_facts (⟨Nat.zero_le _, Above.refl H, ⟨none, 0, true, rfl, .nil0 H, fun _ _ _ h => (by cases h)⟩⟩) rfl rfl⟩) ?_
  rintro st ⟨Hk, k, s, J, ⟨hk, hab, hs⟩, rfl⟩
  by_cases hlt : k < l.length
  · obtain ⟨x, hx⟩ : ∃ x, l[k]? = some x := ⟨l[k], List.getElem?_eq_getElem hlt⟩
    obtain ⟨loc, i0, ro, rs, rfl, hloc, ho, hrx⟩ := (hl.mono hab).rd hx
    have hr1 : rs[i0 + ((k : Int)).toNat]? = some x.cells := by rw [Int.toNat_natCast]; exact hrx
    have hc : decide ((k : Int) < (l.length : Int)) = true := by simp [hlt]
    have hin1 : 0 ≤ (k : Int) ∧ (k : Int) < (l.length : Int) := by omega
    have hw := wrapNat (k := k) (by omega)
    obtain ⟨p2, c2, e2, rfl, hi2, hf2⟩ := hs
    have hk2 : (sortL (l.take k)).length ≤ 1000000 := by rw [sortL_length, List.length_take]; omega
    have hab2 : Above Hk ((Hk.new (.rows false 6 [itemZero])).set Hk.next (some (.rows false 6 [x.cells]))) := ((Above.refl Hk).new _).set (Nat.le_refl _) _
    repeat' (first
      | dsimp only [putD, DV.cells, DH.new_next, DH.set_next, List.length_cons, List.length_nil, Nat.reduceAdd, List.set_cons_zero, List.set_cons_succ, getD_zero, getD_succ, fieldAt_zero, fieldAt_succ, thenD, blockD, retR]
      | apply dwp_seq
      | apply dwp_region
      | apply ops_nil
      | (apply ops_plain; (· exact rfl))
      | (apply ops_on; (· exact rfl); (· exact rfl); (· (first | with_reducible assumption | with_reducible rfl | decide)))
      | (apply ops_off1; (· exact rfl); (· exact rfl); (· (first | with_reducible assumption | with_reducible rfl | decide)))
      | (apply ops_off0; (· exact rfl); (· exact rfl); (· (first | with_reducible assumption | with_reducible rfl | decide)))
      | (apply ops_offn; (· exact rfl); (· exact rfl))
      | (apply ops_split1; (· exact rfl); (· exact rfl); all_goals intro hb)
      | (apply ops_split0; (· exact rfl); (· exact rfl); all_goals intro hb)
      | (apply op_call; (· exact rfl); (· exact rfl); (· exact rfl); refine (put57 _ p2 c2 e2 _ x (hi2.mono hab2) hk2).mono ?_; rintro r H1 ⟨hab3, hr⟩)
      | (apply op_pick_t; (· exact rfl); (· exact rfl); (· (first | with_reducible assumption | with_reducible rfl | decide)); (· exact rfl))
      | (apply op_pick_f; (· exact rfl); (· exact rfl); (· (first | with_reducible assumption | with_reducible rfl | decide)); (· exact rfl))
      | (apply op_index_at; (· exact rfl); (· exact rfl); (· exact rfl); (· with_reducible exact hin1); (· exact rfl); (· exact rfl))
      | (apply op_load_at; (· exact rfl); (· exact rfl); (· with_reducible exact ho); (· with_reducible exact hr1); (· exact (item_part x)))
      | (apply op_load_at; (· exact rfl); (· exact rfl); (· repeat (first | with_reducible assumption | (with_reducible apply obj_here; with_reducible rfl) | with_reducible apply obj_set | (with_reducible apply obj_skip_lo; (· ((repeat (first | with_reducible assumption | with_reducible apply Lo.self | with_reducible apply Lo.new | with_reducible apply Lo.set | with_reducible apply Lo.self1 | with_reducible apply Lo.self2)); done))) | (with_reducible apply obj_past; (· ((first | with_reducible assumption | with_reducible apply ne_add1 | with_reducible apply ne_add1' | with_reducible apply ne_add2 | with_reducible apply ne_add2' | with_reducible apply ne_add12 | with_reducible apply ne_add21 | (with_reducible apply Lo.ne; (repeat (first | with_reducible assumption | with_reducible apply Lo.self | with_reducible apply Lo.new | with_reducible apply Lo.set | with_reducible apply Lo.self1 | with_reducible apply Lo.self2)); done) | (with_reducible apply Lo.ne1; (repeat (first | with_reducible assumption | with_reducible apply Lo.self | with_reducible apply Lo.new | with_reducible apply Lo.set | with_reducible apply Lo.self1 | with_reducible apply Lo.self2)); done) | (with_reducible apply Lo.ne'; (repeat (first | with_reducible assumption | with_reducible apply Lo.self | with_reducible apply Lo.new | with_reducible apply Lo.set | with_reducible apply Lo.self1 | with_reducible apply Lo.self2)); done) | (with_reducible apply Lo.ne1'; (repeat (first | with_reducible assumption | with_reducible apply Lo.self | with_reducible apply Lo.new | with_reducible apply Lo.set | with_reducible apply Lo.self1 | with_reducible apply Lo.self2)); done)); done))))); (· exact rfl); (· exact item_part x))
      | (apply op_load_at; (· exact rfl); (· exact rfl); (· repeat (first | with_reducible assumption | (with_reducible apply obj_here; with_reducible rfl) | with_reducible apply obj_set | (with_reducible apply obj_skip_lo; (· ((repeat (first | with_reducible assumption | with_reducible apply Lo.self | with_reducible apply Lo.new | with_reducible apply Lo.set | with_reducible apply Lo.self1 | with_reducible apply Lo.self2)); done))) | (with_reducible apply obj_past; (· ((first | with_reducible assumption | with_reducible apply ne_add1 | with_reducible apply ne_add1' | with_reducible apply ne_add2 | with_reducible apply ne_add2' | with_reducible apply ne_add12 | with_reducible apply ne_add21 | (with_reducible apply Lo.ne; (repeat (first | with_reducible assumption | with_reducible apply Lo.self | with_reducible apply Lo.new | with_reducible apply Lo.set | with_reducible apply Lo.self1 | with_reducible apply Lo.self2)); done) | (with_reducible apply Lo.ne1; (repeat (first | with_reducible assumption | with_reducible apply Lo.self | with_reducible apply Lo.new | with_reducible apply Lo.set | with_reducible apply Lo.self1 | with_reducible apply Lo.self2)); done) | (with_reducible apply Lo.ne'; (repeat (first | with_reducible assumption | with_reducible apply Lo.self | with_reducible apply Lo.new | with_reducible apply Lo.set | with_reducible apply Lo.self1 | with_reducible apply Lo.self2)); done) | (with_reducible apply Lo.ne1'; (repeat (first | with_reducible assumption | with_reducible apply Lo.self | with_reducible apply Lo.new | with_reducible apply Lo.set | with_reducible apply Lo.self1 | with_reducible apply Lo.self2)); done)); done))))); (· exact rfl); (· exact rfl))
      | (apply op_store_at; (· exact rfl); (· exact rfl); (· exact rfl); (· repeat (first | with_reducible assumption | (with_reducible apply obj_here; with_reducible rfl) | with_reducible apply obj_set | (with_reducible apply obj_skip_lo; (· ((repeat (first | with_reducible assumption | with_reducible apply Lo.self | with_reducible apply Lo.new | with_reducible apply Lo.set | with_reducible apply Lo.self1 | with_reducible apply Lo.self2)); done))) | (with_reducible apply obj_past; (· ((first | with_reducible assumption | with_reducible apply ne_add1 | with_reducible apply ne_add1' | with_reducible apply ne_add2 | with_reducible apply ne_add2' | with_reducible apply ne_add12 | with_reducible apply ne_add21 | (with_reducible apply Lo.ne; (repeat (first | with_reducible assumption | with_reducible apply Lo.self | with_reducible apply Lo.new | with_reducible apply Lo.set | with_reducible apply Lo.self1 | with_reducible apply Lo.self2)); done) | (with_reducible apply Lo.ne1; (repeat (first | with_reducible assumption | with_reducible apply Lo.self | with_reducible apply Lo.new | with_reducible apply Lo.set | with_reducible apply Lo.self1 | with_reducible apply Lo.self2)); done) | (with_reducible apply Lo.ne'; (repeat (first | with_reducible assumption | with_reducible apply Lo.self | with_reducible apply Lo.new | with_reducible apply Lo.set | with_reducible apply Lo.self1 | with_reducible apply Lo.self2)); done) | (with_reducible apply Lo.ne1'; (repeat (first | with_reducible assumption | with_reducible apply Lo.self | with_reducible apply Lo.new | with_reducible apply Lo.set | with_reducible apply Lo.self1 | with_reducible apply Lo.self2)); done)); done))))); (· exact rfl); (· exact rfl); (· exact rfl))
      | (apply op_at; (· exact opD_eqb rfl rfl rfl rfl))
      | (apply op_at; (· exact opD_neqb rfl rfl rfl rfl))
      | (apply op_at; (· exact rfl))
      | (apply dwp_cond_t; (· exact rfl); (· (first | with_reducible assumption | with_reducible rfl | decide)))
      | (apply dwp_cond_f; (· exact rfl); (· (first | with_reducible assumption | with_reducible rfl | decide)))
      | (refine dwp_cond rfl ?_ ?_ <;> intro hb)
      | apply dwp_block
      | apply dwp_skip
      | apply dwp_ret
      | apply dwp_exit
      | (refine ⟨_, rfl, ?_⟩)
      | fail)
    rw [hw]
    refine ⟨⟨_, k + 1, _, junk_facts (⟨by omega, hab.trans (hab2.trans hab3), by rw [sortL_step hx]; exact hr.older (Nat.le_trans hab.le hab2.le)⟩) rfl rfl⟩, ?_⟩
    show l.length - ((k + 1 : Nat) : Int).toNat < l.length - (k : Int).toNat
    omega
  · have hc : decide ((k : Int) < (l.length : Int)) = false := by simp; omega
    obtain rfl : k = l.length := by omega
    rw [List.take_length] at hs
    repeat' (first
      | dsimp only [putD, DV.cells, DH.new_next, DH.set_next, List.length_cons, List.length_nil, Nat.reduceAdd, List.set_cons_zero, List.set_cons_succ, getD_zero, getD_succ, fieldAt_zero, fieldAt_succ, thenD, blockD, retR]
      | apply dwp_seq
      | apply dwp_region
      | apply ops_nil
      | (apply ops_plain; (· exact rfl))
      | (apply ops_on; (· exact rfl); (· exact rfl); (· (first | with_reducible assumption | with_reducible rfl | decide)))
      | (apply ops_off1; (· exact rfl); (· exact rfl); (· (first | with_reducible assumption | with_reducible rfl | decide)))
      | (apply ops_off0; (· exact rfl); (· exact rfl); (· (first | with_reducible assumption | with_reducible rfl | decide)))
      | (apply ops_offn; (· exact rfl); (· exact rfl))
      | (apply ops_split1; (· exact rfl); (· exact rfl); all_goals intro hb)
      | (apply ops_split0; (· exact rfl); (· exact rfl); all_goals intro hb)
      | (apply op_pick_t; (· exact rfl); (· exact rfl); (· (first | with_reducible assumption | with_reducible rfl | decide)); (· exact rfl))
      | (apply op_pick_f; (· exact rfl); (· exact rfl); (· (first | with_reducible assumption | with_reducible rfl | decide)); (· exact rfl))
      | (apply op_load_at; (· exact rfl); (· exact rfl); (· repeat (first | with_reducible assumption | (with_reducible apply obj_here; with_reducible rfl) | with_reducible apply obj_set | (with_reducible apply obj_skip_lo; (· ((repeat (first | with_reducible assumption | with_reducible apply Lo.self | with_reducible apply Lo.new | with_reducible apply Lo.set | with_reducible apply Lo.self1 | with_reducible apply Lo.self2)); done))) | (with_reducible apply obj_past; (· ((first | with_reducible assumption | with_reducible apply ne_add1 | with_reducible apply ne_add1' | with_reducible apply ne_add2 | with_reducible apply ne_add2' | with_reducible apply ne_add12 | with_reducible apply ne_add21 | (with_reducible apply Lo.ne; (repeat (first | with_reducible assumption | with_reducible apply Lo.self | with_reducible apply Lo.new | with_reducible apply Lo.set | with_reducible apply Lo.self1 | with_reducible apply Lo.self2)); done) | (with_reducible apply Lo.ne1; (repeat (first | with_reducible assumption | with_reducible apply Lo.self | with_reducible apply Lo.new | with_reducible apply Lo.set | with_reducible apply Lo.self1 | with_reducible apply Lo.self2)); done) | (with_reducible apply Lo.ne'; (repeat (first | with_reducible assumption | with_reducible apply Lo.self | with_reducible apply Lo.new | with_reducible apply Lo.set | with_reducible apply Lo.self1 | with_reducible apply Lo.self2)); done) | (with_reducible apply Lo.ne1'; (repeat (first | with_reducible assumption | with_reducible apply Lo.self | with_reducible apply Lo.new | with_reducible apply Lo.set | with_reducible apply Lo.self1 | with_reducible apply Lo.self2)); done)); done))))); (· exact rfl); (· exact rfl))
      | (apply op_store_at; (· exact rfl); (· exact rfl); (· exact rfl); (· repeat (first | with_reducible assumption | (with_reducible apply obj_here; with_reducible rfl) | with_reducible apply obj_set | (with_reducible apply obj_skip_lo; (· ((repeat (first | with_reducible assumption | with_reducible apply Lo.self | with_reducible apply Lo.new | with_reducible apply Lo.set | with_reducible apply Lo.self1 | with_reducible apply Lo.self2)); done))) | (with_reducible apply obj_past; (· ((first | with_reducible assumption | with_reducible apply ne_add1 | with_reducible apply ne_add1' | with_reducible apply ne_add2 | with_reducible apply ne_add2' | with_reducible apply ne_add12 | with_reducible apply ne_add21 | (with_reducible apply Lo.ne; (repeat (first | with_reducible assumption | with_reducible apply Lo.self | with_reducible apply Lo.new | with_reducible apply Lo.set | with_reducible apply Lo.self1 | with_reducible apply Lo.self2)); done) | (with_reducible apply Lo.ne1; (repeat (first | with_reducible assumption | with_reducible apply Lo.self | with_reducible apply Lo.new | with_reducible apply Lo.set | with_reducible apply Lo.self1 | with_reducible apply Lo.self2)); done) | (with_reducible apply Lo.ne'; (repeat (first | with_reducible assumption | with_reducible apply Lo.self | with_reducible apply Lo.new | with_reducible apply Lo.set | with_reducible apply Lo.self1 | with_reducible apply Lo.self2)); done) | (with_reducible apply Lo.ne1'; (repeat (first | with_reducible assumption | with_reducible apply Lo.self | with_reducible apply Lo.new | with_reducible apply Lo.set | with_reducible apply Lo.self1 | with_reducible apply Lo.self2)); done)); done))))); (· exact rfl); (· exact rfl); (· exact rfl))
      | (apply op_at; (· exact opD_eqb rfl rfl rfl rfl))
      | (apply op_at; (· exact opD_neqb rfl rfl rfl rfl))
      | (apply op_at; (· exact rfl))
      | (apply dwp_cond_t; (· exact rfl); (· (first | with_reducible assumption | with_reducible rfl | decide)))
      | (apply dwp_cond_f; (· exact rfl); (· (first | with_reducible assumption | with_reducible rfl | decide)))
      | (refine dwp_cond rfl ?_ ?_ <;> intro hb)
      | apply dwp_block
      | apply dwp_skip
      | apply dwp_ret
      | apply dwp_exit
      | (refine ⟨_, rfl, ?_⟩)
      | fail)
    exact ⟨hab, hs⟩
end Go.Det.Q

/- Heaps, plainly: what is taken up or down keeps the order, and the same things. -/
namespace Go.Det.Q
open Go Go.Det Go.Proofs
set_option maxHeartbeats 1000000
set_option linter.unusedVariables false
set_option linter.unusedSimpArgs false
open List
instance : Inhabited Item := ⟨⟨0, 0, 0, 0, 0, 0⟩⟩
def g (l : List Item) (i : Nat) : Item := l.getD i default
/-! ### order -/
/-! ### sorted -/
def Sorted (l : List Item) : Prop := l.Pairwise fun x y => ilt y x = false
theorem putL_perm (l : List Item) (x : Item) : putL l x ~ x :: l := by
  unfold putL
  have := List.takeWhile_append_dropWhile (p := fun y => !ilt x y) (l := l)
  conv => rhs; rw [← this]
  exact perm_middle
theorem foldl_putL_perm : ∀ (l m : List Item), l.foldl putL m ~ l ++ m
  | [], m => Perm.refl _
  | x :: l, m => by
    rw [List.foldl_cons]
    refine (foldl_putL_perm l _).trans ?_
    refine ((putL_perm m x).append_left l).trans ?_
    exact perm_middle
theorem sortL_perm (l : List Item) : sortL l ~ l := by have := foldl_putL_perm l []; rwa [List.append_nil] at this
theorem putL_sorted {l : List Item} (h : Sorted l) (x : Item) : Sorted (putL l x) := by
  induction l with
  | nil => unfold putL Sorted; simp
  | cons y l ih =>
    unfold Sorted at h
    rw [List.pairwise_cons] at h
    unfold putL
    cases hxy : ilt x y with
    | true =>
      rw [List.takeWhile_cons, List.dropWhile_cons]
      simp only [hxy, Bool.not_true, Bool.false_eq_true, if_false, List.nil_append]
      unfold Sorted
      rw [List.pairwise_cons, List.pairwise_cons]
      refine ⟨fun z hz => ?_, h⟩
      rcases List.mem_cons.mp hz with rfl | hz
      · exact ilt_asym hxy
      · exact nlt_trans (ilt_asym hxy) (h.1 z hz)
    | false =>
      rw [List.takeWhile_cons, List.dropWhile_cons]
      simp only [hxy, Bool.not_false, if_true, List.cons_append]
      have ih' := ih h.2
      unfold putL at ih'
      unfold Sorted at ih' ⊢
      rw [List.pairwise_cons]
      refine ⟨fun z hz => ?_, ih'⟩
      have hz' : z ∈ x :: l := (putL_perm l x).mem_iff.mp hz
      rcases List.mem_cons.mp hz' with rfl | hz'
      · exact hxy
      · exact h.1 z hz'
theorem foldl_putL_sorted : ∀ (l m : List Item), Sorted m → Sorted (l.foldl putL m)
  | [], m, h => h
  | x :: l, m, h => by rw [List.foldl_cons]; exact foldl_putL_sorted l _ (putL_sorted h x)
theorem sortL_sorted (l : List Item) : Sorted (sortL l) := foldl_putL_sorted l [] .nil
theorem sorted_eq {l m : List Item} (h : Sorted l) (k : Sorted m) (hp : l ~ m) : l = m := Perm.eq_of_pairwise (le := fun x y => ilt y x = false) (fun a b _ _ h1 h2 => ilt_total h2 h1) h k hp
theorem sortL_of_perm {l m : List Item} (hp : l ~ m) (h : Sorted m) : sortL l = m := sorted_eq (sortL_sorted l) h ((sortL_perm l).trans hp)
/-! ### what has a number -/
end Go.Det.Q
