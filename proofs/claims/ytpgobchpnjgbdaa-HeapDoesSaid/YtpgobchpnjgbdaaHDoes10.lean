/- Heaps, by the document's reference. -/
import Derived.Test.YtpgobchpnjgbdaaHDoes9
namespace Go.Det.Q
open Go Go.Det Go.Proofs
set_option maxRecDepth 4000
set_option maxHeartbeats 4000000
set_option linter.unusedVariables false
set_option linter.unusedSimpArgs false
theorem rless_call4 {x y : Item} {H : DH} {K : DV → DH → Prop} (h : K (.bool (ilt x y)) H) : CallWp Try.prog X4 20 [.agg x.cells, .agg y.cells] H K := call_table (g := gLess) rfl rfl h
theorem mine_itsF_ne {A H : DH} {l : List Item} {s : DV} (h : Mine A H 6 (l.map Item.cells) s) (hne : l ≠ []) (hm : l.length ≤ maxLen) : ItsF A H s l := by
  obtain ⟨p, c, ex, rfl, hi⟩ := it_of_mine h hm
  refine ⟨p, c, ex, rfl, hi, fun loc i z e => ?_⟩
  obtain ⟨x, hx⟩ : ∃ x, l[0]? = some x := ⟨l[0]'(List.length_pos_iff.mpr hne), List.getElem?_eq_getElem _⟩
  obtain ⟨loc', ex', heq, hge, _⟩ := h.wr (k := 0) (r := x.cells) (by rw [List.getElem?_map, hx]; rfl)
  simp only [DV.sl.injEq] at heq
  rw [heq.1] at e
  cases e
  exact hge
/-- The slice up to a place, and from there on. -/
theorem It.take {H : DH} {loc i c : Nat} {ex : Bool} {l : List Item} (h : It H (some (loc, i, 6)) c ex l) {k : Nat} (hk : k ≤ l.length) {xt : Option TypeDesc} {t : TypeId} (hu : xt = some (.slice t)) : appendedD Try.prog 26 H xt (.sl (some (loc, i, 6)) ((k : Int)).toNat c ex) = some ((l.take k).map Item.cells) := by
  have h1 := h.sl.sub (a := 0) (b := k) (Nat.zero_le _) (by rw [List.length_map]; omega)
  have h2 := appended_sl (P := Try.prog) (e := 26) hu h1 c ex
  rw [List.drop_zero, Nat.sub_zero, ← List.map_take, List.length_map, List.length_take, Nat.min_eq_left (by omega)] at h2
  rw [Int.toNat_natCast]
  exact h2
theorem It.dropI {H : DH} {loc i c : Nat} {ex : Bool} {l : List Item} (h : It H (some (loc, i, 6)) c ex l) {k : Nat} (hk : k ≤ l.length) : It H (some (loc, i + k, 6)) (c - k) ex (l.drop k) := by
  have h1 := h.sl.sub (a := k) (b := l.length) hk (by rw [List.length_map]; omega)
  have e0 : (((l.map Item.cells).drop k).take (l.length - k)) = (l.drop k).map Item.cells := by
    rw [List.map_drop, List.take_of_length_le (by simp)]
  rw [e0] at h1
  exact ⟨h1, fun h => (by cases h), by have := h.len; rw [List.length_drop]; omega, by have := h.cap; rw [List.length_drop]; omega⟩
theorem It.drop {H : DH} {loc i c : Nat} {ex : Bool} {l : List Item} (h : It H (some (loc, i, 6)) c ex l) {k : Nat} (hk : k ≤ l.length) {xt : Option TypeDesc} {t : TypeId} (hu : xt = some (.slice t)) : appendedD Try.prog 26 H xt (.sl (some (loc, i + ((k : Int)).toNat, 6)) (l.length - ((k : Int)).toNat) (c - ((k : Int)).toNat) ex) = some ((l.drop k).map Item.cells) := by
  have h2 := (h.dropI hk).appended hu
  rw [List.length_drop] at h2
  rw [Int.toNat_natCast]
  exact h2
def putL (l : List Item) (x : Item) : List Item := l.takeWhile (fun y => !ilt x y) ++ x :: l.dropWhile (fun y => !ilt x y)
theorem putL_at {l : List Item} {x : Item} {k : Nat} (hk : k ≤ l.length) (hb : ∀ (j : Nat) (y : Item), j < k → l[j]? = some y → ilt x y = false) (he : ∀ y, l[k]? = some y → ilt x y = true) : putL l x = l.take k ++ x :: l.drop k := by
  have h1 : l.takeWhile (fun y => !ilt x y) = l.take k ∧ l.dropWhile (fun y => !ilt x y) = l.drop k := by
    clear hk
    induction l generalizing k with
    | nil => simp
    | cons z l ih =>
      cases k with
      | zero =>
        have := he z rfl
        simp [List.takeWhile_cons, List.dropWhile_cons, this]
      | succ k =>
        have h0 := hb 0 z (Nat.succ_pos _) rfl
        have := ih (k := k) (fun j y hj hy => hb (j + 1) y (by omega) (by simpa using hy)) (fun y hy => he y (by simpa using hy))
        simp [List.takeWhile_cons, List.dropWhile_cons, h0, this]
  unfold putL
  rw [h1.1, h1.2]
theorem putL_length (l : List Item) (x : Item) : (putL l x).length = l.length + 1 := by
  unfold putL
  have := congrArg List.length (List.takeWhile_append_dropWhile (p := fun y => !ilt x y) (l := l))
  rw [List.length_append] at this
  rw [List.length_append, List.length_cons]
  omega
theorem put57 (H : DH) (p : Option (Nat × Nat × Nat)) (c : Nat) (ex : Bool) (l : List Item) (x : Item) (hl : It H p c ex l) (hn : l.length ≤ 1000000) :
    CallWp Try.prog X4 57 [.sl p l.length c ex, .agg x.cells] H (fun r H' => Above H H' ∧ ItsF H H' r (putL l x)) := by
  have hab0 : Above H (H.new (.rows false 6 [x.cells])) := (Above.refl H).new _
  have hl0 := hl.mono hab0
  refine enter rfl Try.func57 rfl Try.ntmps57 rfl ?_
  dsimp only [List.cons_append, List.nil_append, List.length_cons, List.length_nil, List.replicate_succ, List.replicate_zero, Nat.reduceAdd, Nat.reduceSub]
  repeat' (first
    | dsimp only [putD, DV.cells, DH.new_next, DH.set_next, List.length_cons, List.length_nil, Nat.reduceAdd, List.set_cons_zero, List.set_cons_succ, getD_zero, getD_succ, fieldAt_zero, fieldAt_succ, thenD, blockD, retR]
    | apply dwp_seq
    | apply dwp_region
    | apply ops_nil
    | (apply ops_plain; (· exact rfl))
    | (apply ops_on; (· exact rfl); (· exact rfl); (· (first | with_reducible assumption | with_reducible rfl | decide)))
    | (apply ops_off1; (· exact rfl); (· exact rfl); (· (first | with_reducible assumption | with_reducible rfl | decide)))
    | (apply ops_off0; (· exact rfl); (· exact rfl); (· (first | with_reducible assumption | with_reducible rfl | decide)))
    | (apply ops_offn; (· exact rfl); (· exact rfl))
    | (apply ops_split1; (· exact rfl); (· exact rfl); all_goals intro hb)
    | (apply ops_split0; (· exact rfl); (· exact rfl); all_goals intro hb)
    | (apply op_pick_t; (· exact rfl); (· exact rfl); (· (first | with_reducible assumption | with_reducible rfl | decide)); (· exact rfl))
    | (apply op_pick_f; (· exact rfl); (· exact rfl); (· (first | with_reducible assumption | with_reducible rfl | decide)); (· exact rfl))
    | (apply op_load_at; (· exact rfl); (· exact rfl); (· repeat (first | with_reducible assumption | (with_reducible apply obj_here; with_reducible rfl) | with_reducible apply obj_set | (with_reducible apply obj_skip_lo; (· ((repeat (first | with_reducible assumption | with_reducible apply Lo.self | with_reducible apply Lo.new | with_reducible apply Lo.set | with_reducible apply Lo.self1 | with_reducible apply Lo.self2)); done))) | (with_reducible apply obj_past; (· ((first | with_reducible assumption | with_reducible apply ne_add1 | with_reducible apply ne_add1' | with_reducible apply ne_add2 | with_reducible apply ne_add2' | with_reducible apply ne_add12 | with_reducible apply ne_add21 | (with_reducible apply Lo.ne; (repeat (first | with_reducible assumption | with_reducible apply Lo.self | with_reducible apply Lo.new | with_reducible apply Lo.set | with_reducible apply Lo.self1 | with_reducible apply Lo.self2)); done) | (with_reducible apply Lo.ne1; (repeat (first | with_reducible assumption | with_reducible apply Lo.self | with_reducible apply Lo.new | with_reducible apply Lo.set | with_reducible apply Lo.self1 | with_reducible apply Lo.self2)); done) | (with_reducible apply Lo.ne'; (repeat (first | with_reducible assumption | with_reducible apply Lo.self | with_reducible apply Lo.new | with_reducible apply Lo.set | with_reducible apply Lo.self1 | with_reducible apply Lo.self2)); done) | (with_reducible apply Lo.ne1'; (repeat (first | with_reducible assumption | with_reducible apply Lo.self | with_reducible apply Lo.new | with_reducible apply Lo.set | with_reducible apply Lo.self1 | with_reducible apply Lo.self2)); done)); done))))); (· exact rfl); (· exact rfl))
    | (apply op_store_at; (· exact rfl); (· exact rfl); (· exact rfl); (· repeat (first | with_reducible assumption | (with_reducible apply obj_here; with_reducible rfl) | with_reducible apply obj_set | (with_reducible apply obj_skip_lo; (· ((repeat (first | with_reducible assumption | with_reducible apply Lo.self | with_reducible apply Lo.new | with_reducible apply Lo.set | with_reducible apply Lo.self1 | with_reducible apply Lo.self2)); done))) | (with_reducible apply obj_past; (· ((first | with_reducible assumption | with_reducible apply ne_add1 | with_reducible apply ne_add1' | with_reducible apply ne_add2 | with_reducible apply ne_add2' | with_reducible apply ne_add12 | with_reducible apply ne_add21 | (with_reducible apply Lo.ne; (repeat (first | with_reducible assumption | with_reducible apply Lo.self | with_reducible apply Lo.new | with_reducible apply Lo.set | with_reducible apply Lo.self1 | with_reducible apply Lo.self2)); done) | (with_reducible apply Lo.ne1; (repeat (first | with_reducible assumption | with_reducible apply Lo.self | with_reducible apply Lo.new | with_reducible apply Lo.set | with_reducible apply Lo.self1 | with_reducible apply Lo.self2)); done) | (with_reducible apply Lo.ne'; (repeat (first | with_reducible assumption | with_reducible apply Lo.self | with_reducible apply Lo.new | with_reducible apply Lo.set | with_reducible apply Lo.self1 | with_reducible apply Lo.self2)); done) | (with_reducible apply Lo.ne1'; (repeat (first | with_reducible assumption | with_reducible apply Lo.self | with_reducible apply Lo.new | with_reducible apply Lo.set | with_reducible apply Lo.self1 | with_reducible apply Lo.self2)); done)); done))))); (· exact rfl); (· exact rfl); (· exact rfl))
    | (apply op_at; (· exact opD_eqb rfl rfl rfl rfl))
    | (apply op_at; (· exact opD_neqb rfl rfl rfl rfl))
    | (apply op_at; (· exact rfl))
    | (apply dwp_cond_t; (· exact rfl); (· (first | with_reducible assumption | with_reducible rfl | decide)))
    | (apply dwp_cond_f; (· exact rfl); (· (first | with_reducible assumption | with_reducible rfl | decide)))
    | (refine dwp_cond rfl ?_ ?_ <;> intro hb)
    | apply dwp_block
    | apply dwp_skip
    | apply dwp_ret
    | apply dwp_exit
    | (refine ⟨_, rfl, ?_⟩)
    | fail)
  refine dwp_loop (fun st => ∃ (k : Nat), ∃ J : Nat → DV, (k ≤ l.length ∧ ∀ (j : Nat) (y : Item), j < k → l[j]? = some y → ilt x y = false) ∧ st = ⟨(.sl p l.length c ex :: .agg x.cells :: J 2 :: .ptr (some (H.next, 0, 0)) :: J 4 :: .int .i64 (k : Int) :: J 6 :: J 7 :: J 8 :: J 9 :: J 10 :: J 11 :: J 12 :: J 13 :: J 14 :: J 15 :: J 16 :: J 17 :: J 18 :: J 19 :: J 20 :: J 21 :: J 22 :: J 23 :: J 24 :: J 25 :: J 26 :: J 27 :: J 28 :: J 29 :: J 30 :: J 31 :: J 32 :: J 33 :: []), (H.new (.rows false 6 [x.cells]))⟩) (fun st => l.length - kOf st 5) (⟨0, junk_facts (⟨Nat.zero_le _, fun j y h => absurd h (Nat.not_lt_zero _)⟩) rfl rfl⟩) ?_
  rintro st ⟨k, J, ⟨hk, hbef⟩, rfl⟩
  by_cases hlt : k < l.length
  · obtain ⟨y, hy⟩ : ∃ y, l[k]? = some y := ⟨l[k], List.getElem?_eq_getElem hlt⟩
    obtain ⟨loc, i0, ro, rs, rfl, hloc, ho, hry⟩ := hl0.rd hy
    have hr1 : rs[i0 + ((k : Int)).toNat]? = some y.cells := by rw [Int.toNat_natCast]; exact hry
    have hc : decide ((k : Int) < (l.length : Int)) = true := by simp [hlt]
    have hin1 : 0 ≤ (k : Int) ∧ (k : Int) < (l.length : Int) := by omega
    have hw := wrapNat (k := k) (by omega)
    cases hxy : ilt x y with
    | true =>
      have hex : ∀ z, l[k]? = some z → ilt x z = true := fun z hz => by rw [hy] at hz; cases hz; exact hxy
      have hcap := hl.cap
      have hinh : 0 ≤ (k : Int) ∧ (k : Int) ≤ (c : Int) := by omega
      have hinl : 0 ≤ (k : Int) ∧ (k : Int) ≤ (l.length : Int) := by omega
      have hnewA := hl0.take (k := k) (by omega) Try.underlying23
      have hnewB : ∀ H', Above (H.new (.rows false 6 [x.cells])) H' → appendedD Try.prog 26 H' (Try.prog.underlying 23) (.sl (some (loc, i0 + ((k : Int)).toNat, 6)) (l.length - ((k : Int)).toNat) (c - ((k : Int)).toNat) ex) = some ((l.drop k).map Item.cells) := fun H' h => (hl0.mono h).drop (by omega) Try.underlying23
      repeat' (first
        | dsimp only [putD, DV.cells, DH.new_next, DH.set_next, List.length_cons, List.length_nil, Nat.reduceAdd, List.set_cons_zero, List.set_cons_succ, getD_zero, getD_succ, fieldAt_zero, fieldAt_succ, thenD, blockD, retR]
        | apply dwp_seq
        | apply dwp_region
        | apply ops_nil
        | (apply ops_plain; (· exact rfl))
        | (apply ops_on; (· exact rfl); (· exact rfl); (· (first | with_reducible assumption | with_reducible rfl | decide)))
        | (apply ops_off1; (· exact rfl); (· exact rfl); (· (first | with_reducible assumption | with_reducible rfl | decide)))
        | (apply ops_off0; (· exact rfl); (· exact rfl); (· (first | with_reducible assumption | with_reducible rfl | decide)))
        | (apply ops_offn; (· exact rfl); (· exact rfl))
        | (apply ops_split1; (· exact rfl); (· exact rfl); all_goals intro hb)
        | (apply ops_split0; (· exact rfl); (· exact rfl); all_goals intro hb)
        | (apply op_call; (· exact rfl); (· exact rfl); (· exact rfl); refine rless_call4 ?_; rw [hxy])
        | (apply op_pick_t; (· exact rfl); (· exact rfl); (· (first | with_reducible assumption | with_reducible rfl | decide)); (· exact rfl))
        | (apply op_pick_f; (· exact rfl); (· exact rfl); (· (first | with_reducible assumption | with_reducible rfl | decide)); (· exact rfl))
        | (apply op_index_at; (· exact rfl); (· exact rfl); (· exact rfl); (· with_reducible exact hin1); (· exact rfl); (· exact rfl))
        | (apply op_load_at; (· exact rfl); (· exact rfl); (· with_reducible exact ho); (· with_reducible exact hr1); (· exact (item_part y)))
        | (apply op_load_at; (· exact rfl); (· exact rfl); (· repeat (first | with_reducible assumption | (with_reducible apply obj_here; with_reducible rfl) | with_reducible apply obj_set | (with_reducible apply obj_skip_lo; (· ((repeat (first | with_reducible assumption | with_reducible apply Lo.self | with_reducible apply Lo.new | with_reducible apply Lo.set | with_reducible apply Lo.self1 | with_reducible apply Lo.self2)); done))) | (with_reducible apply obj_past; (· ((first | with_reducible assumption | with_reducible apply ne_add1 | with_reducible apply ne_add1' | with_reducible apply ne_add2 | with_reducible apply ne_add2' | with_reducible apply ne_add12 | with_reducible apply ne_add21 | (with_reducible apply Lo.ne; (repeat (first | with_reducible assumption | with_reducible apply Lo.self | with_reducible apply Lo.new | with_reducible apply Lo.set | with_reducible apply Lo.self1 | with_reducible apply Lo.self2)); done) | (with_reducible apply Lo.ne1; (repeat (first | with_reducible assumption | with_reducible apply Lo.self | with_reducible apply Lo.new | with_reducible apply Lo.set | with_reducible apply Lo.self1 | with_reducible apply Lo.self2)); done) | (with_reducible apply Lo.ne'; (repeat (first | with_reducible assumption | with_reducible apply Lo.self | with_reducible apply Lo.new | with_reducible apply Lo.set | with_reducible apply Lo.self1 | with_reducible apply Lo.self2)); done) | (with_reducible apply Lo.ne1'; (repeat (first | with_reducible assumption | with_reducible apply Lo.self | with_reducible apply Lo.new | with_reducible apply Lo.set | with_reducible apply Lo.self1 | with_reducible apply Lo.self2)); done)); done))))); (· exact rfl); (· exact item_part x))
        | (refine op_append_fresh (xt := 23) rfl rfl rfl E23 hnewA (cells_all _) (by rw [List.length_map, List.length_take]; unfold mostD; omega) ?_; intro s1 H1 hm1 hab1 hfr1; have hbox1 := hab1.obj (l := H.next) (Nat.lt_succ_self _) (obj_here rfl); have hm1' := hm1.mono ((Above.refl H1).new (.rows false 6 [x.cells])))
        | (refine op_append (xt := 23) (new := [x.cells]) rfl rfl rfl E23 hm1' (hab1.new _) (appended_sl Try.underlying23 Sl.fresh _ _) rfl (by rw [List.length_map, List.length_take]; show _ + 1 ≤ mostD; unfold mostD; omega) ?_; intro s2 H2 hm2 hab2 hax2 hfr2)
        | (refine op_append (xt := 23) rfl rfl rfl E23 hm2 hab2 (hnewB _ hab2) (cells_all _) (by rw [List.length_append, List.length_map, List.length_map, List.length_take, List.length_drop]; show _ + 1 + _ ≤ mostD; unfold mostD; omega) ?_; intro s3 H3 hm3 hab3 hax3 hfr3)
        | (apply op_at; (· exact opD_slice_hi rfl rfl rfl rfl rfl hinh))
        | (apply op_at; (· exact opD_slice_lo rfl rfl rfl rfl rfl hinl))
        | (apply op_load_at; (· exact rfl); (· exact rfl); (· repeat (first | with_reducible assumption | (with_reducible apply obj_here; with_reducible rfl) | with_reducible apply obj_set | (with_reducible apply obj_skip_lo; (· ((repeat (first | with_reducible assumption | with_reducible apply Lo.self | with_reducible apply Lo.new | with_reducible apply Lo.set | with_reducible apply Lo.self1 | with_reducible apply Lo.self2)); done))) | (with_reducible apply obj_past; (· ((first | with_reducible assumption | with_reducible apply ne_add1 | with_reducible apply ne_add1' | with_reducible apply ne_add2 | with_reducible apply ne_add2' | with_reducible apply ne_add12 | with_reducible apply ne_add21 | (with_reducible apply Lo.ne; (repeat (first | with_reducible assumption | with_reducible apply Lo.self | with_reducible apply Lo.new | with_reducible apply Lo.set | with_reducible apply Lo.self1 | with_reducible apply Lo.self2)); done) | (with_reducible apply Lo.ne1; (repeat (first | with_reducible assumption | with_reducible apply Lo.self | with_reducible apply Lo.new | with_reducible apply Lo.set | with_reducible apply Lo.self1 | with_reducible apply Lo.self2)); done) | (with_reducible apply Lo.ne'; (repeat (first | with_reducible assumption | with_reducible apply Lo.self | with_reducible apply Lo.new | with_reducible apply Lo.set | with_reducible apply Lo.self1 | with_reducible apply Lo.self2)); done) | (with_reducible apply Lo.ne1'; (repeat (first | with_reducible assumption | with_reducible apply Lo.self | with_reducible apply Lo.new | with_reducible apply Lo.set | with_reducible apply Lo.self1 | with_reducible apply Lo.self2)); done)); done))))); (· exact rfl); (· exact rfl))
        | (apply op_store_at; (· exact rfl); (· exact rfl); (· exact rfl); (· repeat (first | with_reducible assumption | (with_reducible apply obj_here; with_reducible rfl) | with_reducible apply obj_set | (with_reducible apply obj_skip_lo; (· ((repeat (first | with_reducible assumption | with_reducible apply Lo.self | with_reducible apply Lo.new | with_reducible apply Lo.set | with_reducible apply Lo.self1 | with_reducible apply Lo.self2)); done))) | (with_reducible apply obj_past; (· ((first | with_reducible assumption | with_reducible apply ne_add1 | with_reducible apply ne_add1' | with_reducible apply ne_add2 | with_reducible apply ne_add2' | with_reducible apply ne_add12 | with_reducible apply ne_add21 | (with_reducible apply Lo.ne; (repeat (first | with_reducible assumption | with_reducible apply Lo.self | with_reducible apply Lo.new | with_reducible apply Lo.set | with_reducible apply Lo.self1 | with_reducible apply Lo.self2)); done) | (with_reducible apply Lo.ne1; (repeat (first | with_reducible assumption | with_reducible apply Lo.self | with_reducible apply Lo.new | with_reducible apply Lo.set | with_reducible apply Lo.self1 | with_reducible apply Lo.self2)); done) | (with_reducible apply Lo.ne'; (repeat (first | with_reducible assumption | with_reducible apply Lo.self | with_reducible apply Lo.new | with_reducible apply Lo.set | with_reducible apply Lo.self1 | with_reducible apply Lo.self2)); done) | (with_reducible apply Lo.ne1'; (repeat (first | with_reducible assumption | with_reducible apply Lo.self | with_reducible apply Lo.new | with_reducible apply Lo.set | with_reducible apply Lo.self1 | with_reducible apply Lo.self2)); done)); done))))); (· exact rfl); (· exact rfl); (· exact rfl))
        | (apply op_at; (· exact opD_eqb rfl rfl rfl rfl))
        | (apply op_at; (· exact opD_neqb rfl rfl rfl rfl))
        | (apply op_at; (· exact rfl))
        | refine dwp_draw _ rfl ?_
        | apply draw_nil
        | (apply all_and; (· kernel_rfl))
        | (apply was_and; (· kernel_rfl))
        | (apply draw_pure; (· (first | exact wanted_plain rfl | (apply wanted_on; (· exact rfl); (· exact rfl); (· (first | with_reducible assumption | with_reducible rfl | decide))))); (· exact rfl); (· exact rfl))
        | (apply draw_read; (· (first | exact wanted_plain rfl | (apply wanted_on; (· exact rfl); (· exact rfl); (· (first | with_reducible assumption | with_reducible rfl | decide))))); (· exact rfl); (· exact rfl))
        | (apply draw_move; (· (first | exact wanted_plain rfl | (apply wanted_on; (· exact rfl); (· exact rfl); (· (first | with_reducible assumption | with_reducible rfl | decide))))); (· exact rfl))
        | (apply draw_off; (· (first | (apply wanted_off1; (· exact rfl); (· exact rfl); (· (first | with_reducible assumption | with_reducible rfl | decide))) | (apply wanted_off0; (· exact rfl); (· exact rfl); (· (first | with_reducible assumption | with_reducible rfl | decide))) | (apply wanted_none; (· exact rfl); (· exact rfl)))))
        | (apply dwp_cond_t; (· exact rfl); (· (first | with_reducible assumption | with_reducible rfl | decide)))
        | (apply dwp_cond_f; (· exact rfl); (· (first | with_reducible assumption | with_reducible rfl | decide)))
        | (refine dwp_cond rfl ?_ ?_ <;> intro hb)
        | apply dwp_block
        | apply dwp_skip
        | apply dwp_ret
        | apply dwp_exit
        | (refine ⟨_, rfl, ?_⟩)
        | fail)
      refine ⟨hab0.trans hab3, ?_⟩
      have e : (l.take k).map Item.cells ++ [x.cells] ++ (l.drop k).map Item.cells = (putL l x).map Item.cells := by rw [putL_at hk hbef hex]; simp
      rw [e] at hm3
      exact (mine_itsF_ne hm3 (by intro h; have := putL_length l x; rw [h] at this; simp at this) (by rw [putL_length]; unfold maxLen; omega)).older (Nat.le_succ _)
    | false =>
      repeat' (first
        | dsimp only [putD, DV.cells, DH.new_next, DH.set_next, List.length_cons, List.length_nil, Nat.reduceAdd, List.set_cons_zero, List.set_cons_succ, getD_zero, getD_succ, fieldAt_zero, fieldAt_succ, thenD, blockD, retR]
        | apply dwp_seq
        | apply dwp_region
        | apply ops_nil
        | (apply ops_plain; (· exact rfl))
        | (apply ops_on; (· exact rfl); (· exact rfl); (· (first | with_reducible assumption | with_reducible rfl | decide)))
        | (apply ops_off1; (· exact rfl); (· exact rfl); (· (first | with_reducible assumption | with_reducible rfl | decide)))
        | (apply ops_off0; (· exact rfl); (· exact rfl); (· (first | with_reducible assumption | with_reducible rfl | decide)))
        | (apply ops_offn; (· exact rfl); (· exact rfl))
        | (apply ops_split1; (· exact rfl); (· exact rfl); all_goals intro hb)
        | (apply ops_split0; (· exact rfl); (· exact rfl); all_goals intro hb)
        | (apply op_call; (· exact rfl); (· exact rfl); (· exact rfl); refine rless_call4 ?_; rw [hxy])
        | (apply op_pick_t; (· exact rfl); (· exact rfl); (· (first | with_reducible assumption | with_reducible rfl | decide)); (· exact rfl))
        | (apply op_pick_f; (· exact rfl); (· exact rfl); (· (first | with_reducible assumption | with_reducible rfl | decide)); (· exact rfl))
        | (apply op_index_at; (· exact rfl); (· exact rfl); (· exact rfl); (· with_reducible exact hin1); (· exact rfl); (· exact rfl))
        | (apply op_load_at; (· exact rfl); (· exact rfl); (· with_reducible exact ho); (· with_reducible exact hr1); (· exact (item_part y)))
        | (apply op_load_at; (· exact rfl); (· exact rfl); (· repeat (first | with_reducible assumption | (with_reducible apply obj_here; with_reducible rfl) | with_reducible apply obj_set | (with_reducible apply obj_skip_lo; (· ((repeat (first | with_reducible assumption | with_reducible apply Lo.self | with_reducible apply Lo.new | with_reducible apply Lo.set | with_reducible apply Lo.self1 | with_reducible apply Lo.self2)); done))) | (with_reducible apply obj_past; (· ((first | with_reducible assumption | with_reducible apply ne_add1 | with_reducible apply ne_add1' | with_reducible apply ne_add2 | with_reducible apply ne_add2' | with_reducible apply ne_add12 | with_reducible apply ne_add21 | (with_reducible apply Lo.ne; (repeat (first | with_reducible assumption | with_reducible apply Lo.self | with_reducible apply Lo.new | with_reducible apply Lo.set | with_reducible apply Lo.self1 | with_reducible apply Lo.self2)); done) | (with_reducible apply Lo.ne1; (repeat (first | with_reducible assumption | with_reducible apply Lo.self | with_reducible apply Lo.new | with_reducible apply Lo.set | with_reducible apply Lo.self1 | with_reducible apply Lo.self2)); done) | (with_reducible apply Lo.ne'; (repeat (first | with_reducible assumption | with_reducible apply Lo.self | with_reducible apply Lo.new | with_reducible apply Lo.set | with_reducible apply Lo.self1 | with_reducible apply Lo.self2)); done) | (with_reducible apply Lo.ne1'; (repeat (first | with_reducible assumption | with_reducible apply Lo.self | with_reducible apply Lo.new | with_reducible apply Lo.set | with_reducible apply Lo.self1 | with_reducible apply Lo.self2)); done)); done))))); (· exact rfl); (· exact item_part x))
        | (apply op_load_at; (· exact rfl); (· exact rfl); (· repeat (first | with_reducible assumption | (with_reducible apply obj_here; with_reducible rfl) | with_reducible apply obj_set | (with_reducible apply obj_skip_lo; (· ((repeat (first | with_reducible assumption | with_reducible apply Lo.self | with_reducible apply Lo.new | with_reducible apply Lo.set | with_reducible apply Lo.self1 | with_reducible apply Lo.self2)); done))) | (with_reducible apply obj_past; (· ((first | with_reducible assumption | with_reducible apply ne_add1 | with_reducible apply ne_add1' | with_reducible apply ne_add2 | with_reducible apply ne_add2' | with_reducible apply ne_add12 | with_reducible apply ne_add21 | (with_reducible apply Lo.ne; (repeat (first | with_reducible assumption | with_reducible apply Lo.self | with_reducible apply Lo.new | with_reducible apply Lo.set | with_reducible apply Lo.self1 | with_reducible apply Lo.self2)); done) | (with_reducible apply Lo.ne1; (repeat (first | with_reducible assumption | with_reducible apply Lo.self | with_reducible apply Lo.new | with_reducible apply Lo.set | with_reducible apply Lo.self1 | with_reducible apply Lo.self2)); done) | (with_reducible apply Lo.ne'; (repeat (first | with_reducible assumption | with_reducible apply Lo.self | with_reducible apply Lo.new | with_reducible apply Lo.set | with_reducible apply Lo.self1 | with_reducible apply Lo.self2)); done) | (with_reducible apply Lo.ne1'; (repeat (first | with_reducible assumption | with_reducible apply Lo.self | with_reducible apply Lo.new | with_reducible apply Lo.set | with_reducible apply Lo.self1 | with_reducible apply Lo.self2)); done)); done))))); (· exact rfl); (· exact rfl))
        | (apply op_store_at; (· exact rfl); (· exact rfl); (· exact rfl); (· repeat (first | with_reducible assumption | (with_reducible apply obj_here; with_reducible rfl) | with_reducible apply obj_set | (with_reducible apply obj_skip_lo; (· ((repeat (first | with_reducible assumption | with_reducible apply Lo.self | with_reducible apply Lo.new | with_reducible apply Lo.set | with_reducible apply Lo.self1 | with_reducible apply Lo.self2)); done))) | (with_reducible apply obj_past; (· ((first | with_reducible assumption | with_reducible apply ne_add1 | with_reducible apply ne_add1' | with_reducible apply ne_add2 | with_reducible apply ne_add2' | with_reducible apply ne_add12 | with_reducible apply ne_add21 | (with_reducible apply Lo.ne; (repeat (first | with_reducible assumption | with_reducible apply Lo.self | with_reducible apply Lo.new | with_reducible apply Lo.set | with_reducible apply Lo.self1 | with_reducible apply Lo.self2)); done) | (with_reducible apply Lo.ne1; (repeat (first | with_reducible assumption | with_reducible apply Lo.self | with_reducible apply Lo.new | with_reducible apply Lo.set | with_reducible apply Lo.self1 | with_reducible apply Lo.self2)); done) | (with_reducible apply Lo.ne'; (repeat (first | with_reducible assumption | with_reducible apply Lo.self | with_reducible apply Lo.new | with_reducible apply Lo.set | with_reducible apply Lo.self1 | with_reducible apply Lo.self2)); done) | (with_reducible apply Lo.ne1'; (repeat (first | with_reducible assumption | with_reducible apply Lo.self | with_reducible apply Lo.new | with_reducible apply Lo.set | with_reducible apply Lo.self1 | with_reducible apply Lo.self2)); done)); done))))); (· exact rfl); (· exact rfl); (· exact rfl))
        | (apply op_at; (· exact opD_eqb rfl rfl rfl rfl))
        | (apply op_at; (· exact opD_neqb rfl rfl rfl rfl))
        | (apply op_at; (· exact rfl))
        | refine dwp_draw _ rfl ?_
        | apply draw_nil
        | (apply all_and; (· kernel_rfl))
        | (apply was_and; (· kernel_rfl))
        | (apply draw_pure; (· (first | exact wanted_plain rfl | (apply wanted_on; (· exact rfl); (· exact rfl); (· (first | with_reducible assumption | with_reducible rfl | decide))))); (· exact rfl); (· exact rfl))
        | (apply draw_read; (· (first | exact wanted_plain rfl | (apply wanted_on; (· exact rfl); (· exact rfl); (· (first | with_reducible assumption | with_reducible rfl | decide))))); (· exact rfl); (· exact rfl))
        | (apply draw_move; (· (first | exact wanted_plain rfl | (apply wanted_on; (· exact rfl); (· exact rfl); (· (first | with_reducible assumption | with_reducible rfl | decide))))); (· exact rfl))
        | (apply draw_off; (· (first | (apply wanted_off1; (· exact rfl); (· exact rfl); (· (first | with_reducible assumption | with_reducible rfl | decide))) | (apply wanted_off0; (· exact rfl); (· exact rfl); (· (first | with_reducible assumption | with_reducible rfl | decide))) | (apply wanted_none; (· exact rfl); (· exact rfl)))))
        | (apply dwp_cond_t; (· exact rfl); (· (first | with_reducible assumption | with_reducible rfl | decide)))
        | (apply dwp_cond_f; (· exact rfl); (· (first | with_reducible assumption | with_reducible rfl | decide)))
        | (refine dwp_cond rfl ?_ ?_ <;> intro hb)
        | apply dwp_block
        | apply dwp_skip
        | apply dwp_ret
        | apply dwp_exit
        | (refine ⟨_, rfl, ?_⟩)
        | fail)
      rw [hw]
      refine ⟨⟨k + 1, junk_facts (⟨by omega, fun j z h1 h2 => ?_⟩) rfl rfl⟩, ?_⟩
      · by_cases e : j = k
        · subst e; rw [hy] at h2; cases h2; exact hxy
        · exact hbef j z (by omega) h2
      · show l.length - ((k + 1 : Nat) : Int).toNat < l.length - (k : Int).toNat
        omega
  · have hc : decide ((k : Int) < (l.length : Int)) = false := by simp; omega
    obtain rfl : k = l.length := by omega
    have hex : ∀ z, l[l.length]? = some z → ilt x z = true := fun z hz => by simp at hz
    cases p with
    | none =>
      have h0 : l = [] := by simpa using hl.sl.none_len
      subst h0
      obtain ⟨rfl, rfl⟩ := hl.nil rfl
      have hnewA : appendedD Try.prog 26 (H.new (.rows false 6 [x.cells])) (Try.prog.underlying 23) (.sl none 0 0 true) = some (([] : List Item).map Item.cells) := (It.nil0 _).appended Try.underlying23
      have hnewB : ∀ H', Above (H.new (.rows false 6 [x.cells])) H' → appendedD Try.prog 26 H' (Try.prog.underlying 23) (.sl none 0 0 true) = some (([] : List Item).map Item.cells) := fun H' h => (It.nil0 _).appended Try.underlying23
      repeat' (first
        | dsimp only [putD, DV.cells, DH.new_next, DH.set_next, List.length_cons, List.length_nil, Nat.reduceAdd, List.set_cons_zero, List.set_cons_succ, getD_zero, getD_succ, fieldAt_zero, fieldAt_succ, thenD, blockD, retR]
        | apply dwp_seq
        | apply dwp_region
        | apply ops_nil
        | (apply ops_plain; (· exact rfl))
        | (apply ops_on; (· exact rfl); (· exact rfl); (· (first | with_reducible assumption | with_reducible rfl | decide)))
        | (apply ops_off1; (· exact rfl); (· exact rfl); (· (first | with_reducible assumption | with_reducible rfl | decide)))
        | (apply ops_off0; (· exact rfl); (· exact rfl); (· (first | with_reducible assumption | with_reducible rfl | decide)))
        | (apply ops_offn; (· exact rfl); (· exact rfl))
        | (apply ops_split1; (· exact rfl); (· exact rfl); all_goals intro hb)
        | (apply ops_split0; (· exact rfl); (· exact rfl); all_goals intro hb)
        | (apply op_pick_t; (· exact rfl); (· exact rfl); (· (first | with_reducible assumption | with_reducible rfl | decide)); (· exact rfl))
        | (apply op_pick_f; (· exact rfl); (· exact rfl); (· (first | with_reducible assumption | with_reducible rfl | decide)); (· exact rfl))
        | (refine op_append_fresh (xt := 23) rfl rfl rfl E23 hnewA (cells_all _) (Nat.zero_le _) ?_; intro s1 H1 hm1 hab1 hfr1; have hbox1 := hab1.obj (l := H.next) (Nat.lt_succ_self _) (obj_here rfl); have hm1' := hm1.mono ((Above.refl H1).new (.rows false 6 [x.cells])))
        | (refine op_append (xt := 23) (new := [x.cells]) rfl rfl rfl E23 hm1' (hab1.new _) (appended_sl Try.underlying23 Sl.fresh _ _) rfl (by show 1 ≤ mostD; unfold mostD; omega) ?_; intro s2 H2 hm2 hab2 hax2 hfr2)
        | (refine op_append (xt := 23) rfl rfl rfl E23 hm2 hab2 (hnewB _ hab2) (cells_all _) (by show 1 ≤ mostD; unfold mostD; omega) ?_; intro s3 H3 hm3 hab3 hax3 hfr3)
        | (apply op_load_at; (· exact rfl); (· exact rfl); (· repeat (first | with_reducible assumption | (with_reducible apply obj_here; with_reducible rfl) | with_reducible apply obj_set | (with_reducible apply obj_skip_lo; (· ((repeat (first | with_reducible assumption | with_reducible apply Lo.self | with_reducible apply Lo.new | with_reducible apply Lo.set | with_reducible apply Lo.self1 | with_reducible apply Lo.self2)); done))) | (with_reducible apply obj_past; (· ((first | with_reducible assumption | with_reducible apply ne_add1 | with_reducible apply ne_add1' | with_reducible apply ne_add2 | with_reducible apply ne_add2' | with_reducible apply ne_add12 | with_reducible apply ne_add21 | (with_reducible apply Lo.ne; (repeat (first | with_reducible assumption | with_reducible apply Lo.self | with_reducible apply Lo.new | with_reducible apply Lo.set | with_reducible apply Lo.self1 | with_reducible apply Lo.self2)); done) | (with_reducible apply Lo.ne1; (repeat (first | with_reducible assumption | with_reducible apply Lo.self | with_reducible apply Lo.new | with_reducible apply Lo.set | with_reducible apply Lo.self1 | with_reducible apply Lo.self2)); done) | (with_reducible apply Lo.ne'; (repeat (first | with_reducible assumption | with_reducible apply Lo.self | with_reducible apply Lo.new | with_reducible apply Lo.set | with_reducible apply Lo.self1 | with_reducible apply Lo.self2)); done) | (with_reducible apply Lo.ne1'; (repeat (first | with_reducible assumption | with_reducible apply Lo.self | with_reducible apply Lo.new | with_reducible apply Lo.set | with_reducible apply Lo.self1 | with_reducible apply Lo.self2)); done)); done))))); (· exact rfl); (· exact rfl))
        | (apply op_store_at; (· exact rfl); (· exact rfl); (· exact rfl); (· repeat (first | with_reducible assumption | (with_reducible apply obj_here; with_reducible rfl) | with_reducible apply obj_set | (with_reducible apply obj_skip_lo; (· ((repeat (first | with_reducible assumption | with_reducible apply Lo.self | with_reducible apply Lo.new | with_reducible apply Lo.set | with_reducible apply Lo.self1 | with_reducible apply Lo.self2)); done))) | (with_reducible apply obj_past; (· ((first | with_reducible assumption | with_reducible apply ne_add1 | with_reducible apply ne_add1' | with_reducible apply ne_add2 | with_reducible apply ne_add2' | with_reducible apply ne_add12 | with_reducible apply ne_add21 | (with_reducible apply Lo.ne; (repeat (first | with_reducible assumption | with_reducible apply Lo.self | with_reducible apply Lo.new | with_reducible apply Lo.set | with_reducible apply Lo.self1 | with_reducible apply Lo.self2)); done) | (with_reducible apply Lo.ne1; (repeat (first | with_reducible assumption | with_reducible apply Lo.self | with_reducible apply Lo.new | with_reducible apply Lo.set | with_reducible apply Lo.self1 | with_reducible apply Lo.self2)); done) | (with_reducible apply Lo.ne'; (repeat (first | with_reducible assumption | with_reducible apply Lo.self | with_reducible apply Lo.new | with_reducible apply Lo.set | with_reducible apply Lo.self1 | with_reducible apply Lo.self2)); done) | (with_reducible apply Lo.ne1'; (repeat (first | with_reducible assumption | with_reducible apply Lo.self | with_reducible apply Lo.new | with_reducible apply Lo.set | with_reducible apply Lo.self1 | with_reducible apply Lo.self2)); done)); done))))); (· exact rfl); (· exact rfl); (· exact rfl))
        | (apply op_at; (· exact opD_eqb rfl rfl rfl rfl))
        | (apply op_at; (· exact opD_neqb rfl rfl rfl rfl))
        | (apply op_at; (· exact rfl))
        | refine dwp_draw _ rfl ?_
        | apply draw_nil
        | (apply all_and; (· kernel_rfl))
        | (apply was_and; (· kernel_rfl))
        | (apply draw_pure; (· (first | exact wanted_plain rfl | (apply wanted_on; (· exact rfl); (· exact rfl); (· (first | with_reducible assumption | with_reducible rfl | decide))))); (· exact rfl); (· exact rfl))
        | (apply draw_read; (· (first | exact wanted_plain rfl | (apply wanted_on; (· exact rfl); (· exact rfl); (· (first | with_reducible assumption | with_reducible rfl | decide))))); (· exact rfl); (· exact rfl))
        | (apply draw_move; (· (first | exact wanted_plain rfl | (apply wanted_on; (· exact rfl); (· exact rfl); (· (first | with_reducible assumption | with_reducible rfl | decide))))); (· exact rfl))
        | (apply draw_off; (· (first | (apply wanted_off1; (· exact rfl); (· exact rfl); (· (first | with_reducible assumption | with_reducible rfl | decide))) | (apply wanted_off0; (· exact rfl); (· exact rfl); (· (first | with_reducible assumption | with_reducible rfl | decide))) | (apply wanted_none; (· exact rfl); (· exact rfl)))))
        | (apply dwp_cond_t; (· exact rfl); (· (first | with_reducible assumption | with_reducible rfl | decide)))
        | (apply dwp_cond_f; (· exact rfl); (· (first | with_reducible assumption | with_reducible rfl | decide)))
        | (refine dwp_cond rfl ?_ ?_ <;> intro hb)
        | apply dwp_block
        | apply dwp_skip
        | apply dwp_ret
        | apply dwp_exit
        | (refine ⟨_, rfl, ?_⟩)
        | fail)
      refine ⟨hab0.trans hab3, ?_⟩
      have e : ([] : List Item).map Item.cells ++ [x.cells] ++ ([] : List Item).map Item.cells = (putL [] x).map Item.cells := rfl
      rw [e] at hm3
      exact (mine_itsF_ne hm3 (by intro h; cases h) (by unfold maxLen; show 1 ≤ _; omega)).older (Nat.le_succ _)
    | some q =>
      obtain ⟨loc, i0, z⟩ := q
      have hz := hl.sl.size
      subst hz
      generalize hkk : l.length = k at *
      have hcap := hl.cap
      have hinh : 0 ≤ (k : Int) ∧ (k : Int) ≤ (c : Int) := by omega
      have hinl : 0 ≤ (k : Int) ∧ (k : Int) ≤ (k : Int) := by omega
      have hnewA := hl0.take (k := k) (by omega) Try.underlying23
      have hnewB : ∀ H', Above (H.new (.rows false 6 [x.cells])) H' → appendedD Try.prog 26 H' (Try.prog.underlying 23) (.sl (some (loc, i0 + ((k : Int)).toNat, 6)) (k - ((k : Int)).toNat) (c - ((k : Int)).toNat) ex) = some ((l.drop k).map Item.cells) := fun H' h => by have h9 := (hl0.mono h).drop (k := k) (by omega) Try.underlying23; rw [hkk] at h9; exact h9
      repeat' (first
        | dsimp only [putD, DV.cells, DH.new_next, DH.set_next, List.length_cons, List.length_nil, Nat.reduceAdd, List.set_cons_zero, List.set_cons_succ, getD_zero, getD_succ, fieldAt_zero, fieldAt_succ, thenD, blockD, retR]
        | apply dwp_seq
        | apply dwp_region
        | apply ops_nil
        | (apply ops_plain; (· exact rfl))
        | (apply ops_on; (· exact rfl); (· exact rfl); (· (first | with_reducible assumption | with_reducible rfl | decide)))
        | (apply ops_off1; (· exact rfl); (· exact rfl); (· (first | with_reducible assumption | with_reducible rfl | decide)))
        | (apply ops_off0; (· exact rfl); (· exact rfl); (· (first | with_reducible assumption | with_reducible rfl | decide)))
        | (apply ops_offn; (· exact rfl); (· exact rfl))
        | (apply ops_split1; (· exact rfl); (· exact rfl); all_goals intro hb)
        | (apply ops_split0; (· exact rfl); (· exact rfl); all_goals intro hb)
        | (apply op_pick_t; (· exact rfl); (· exact rfl); (· (first | with_reducible assumption | with_reducible rfl | decide)); (· exact rfl))
        | (apply op_pick_f; (· exact rfl); (· exact rfl); (· (first | with_reducible assumption | with_reducible rfl | decide)); (· exact rfl))
        | (refine op_append_fresh (xt := 23) rfl rfl rfl E23 hnewA (cells_all _) (by rw [List.length_map, List.length_take]; unfold mostD; omega) ?_; intro s1 H1 hm1 hab1 hfr1; have hbox1 := hab1.obj (l := H.next) (Nat.lt_succ_self _) (obj_here rfl); have hm1' := hm1.mono ((Above.refl H1).new (.rows false 6 [x.cells])))
        | (refine op_append (xt := 23) (new := [x.cells]) rfl rfl rfl E23 hm1' (hab1.new _) (appended_sl Try.underlying23 Sl.fresh _ _) rfl (by rw [List.length_map, List.length_take]; show _ + 1 ≤ mostD; unfold mostD; omega) ?_; intro s2 H2 hm2 hab2 hax2 hfr2)
        | (refine op_append (xt := 23) rfl rfl rfl E23 hm2 hab2 (hnewB _ hab2) (cells_all _) (by rw [List.length_append, List.length_map, List.length_map, List.length_take, List.length_drop]; show _ + 1 + _ ≤ mostD; unfold mostD; omega) ?_; intro s3 H3 hm3 hab3 hax3 hfr3)
        | (apply op_at; (· exact opD_slice_hi rfl rfl rfl rfl rfl hinh))
        | (apply op_at; (· exact opD_slice_lo rfl rfl rfl rfl rfl hinl))
        | (apply op_load_at; (· exact rfl); (· exact rfl); (· repeat (first | with_reducible assumption | (with_reducible apply obj_here; with_reducible rfl) | with_reducible apply obj_set | (with_reducible apply obj_skip_lo; (· ((repeat (first | with_reducible assumption | with_reducible apply Lo.self | with_reducible apply Lo.new | with_reducible apply Lo.set | with_reducible apply Lo.self1 | with_reducible apply Lo.self2)); done))) | (with_reducible apply obj_past; (· ((first | with_reducible assumption | with_reducible apply ne_add1 | with_reducible apply ne_add1' | with_reducible apply ne_add2 | with_reducible apply ne_add2' | with_reducible apply ne_add12 | with_reducible apply ne_add21 | (with_reducible apply Lo.ne; (repeat (first | with_reducible assumption | with_reducible apply Lo.self | with_reducible apply Lo.new | with_reducible apply Lo.set | with_reducible apply Lo.self1 | with_reducible apply Lo.self2)); done) | (with_reducible apply Lo.ne1; (repeat (first | with_reducible assumption | with_reducible apply Lo.self | with_reducible apply Lo.new | with_reducible apply Lo.set | with_reducible apply Lo.self1 | with_reducible apply Lo.self2)); done) | (with_reducible apply Lo.ne'; (repeat (first | with_reducible assumption | with_reducible apply Lo.self | with_reducible apply Lo.new | with_reducible apply Lo.set | with_reducible apply Lo.self1 | with_reducible apply Lo.self2)); done) | (with_reducible apply Lo.ne1'; (repeat (first | with_reducible assumption | with_reducible apply Lo.self | with_reducible apply Lo.new | with_reducible apply Lo.set | with_reducible apply Lo.self1 | with_reducible apply Lo.self2)); done)); done))))); (· exact rfl); (· exact rfl))
        | (apply op_store_at; (· exact rfl); (· exact rfl); (· exact rfl); (· repeat (first | with_reducible assumption | (with_reducible apply obj_here; with_reducible rfl) | with_reducible apply obj_set | (with_reducible apply obj_skip_lo; (· ((repeat (first | with_reducible assumption | with_reducible apply Lo.self | with_reducible apply Lo.new | with_reducible apply Lo.set | with_reducible apply Lo.self1 | with_reducible apply Lo.self2)); done))) | (with_reducible apply obj_past; (· ((first | with_reducible assumption | with_reducible apply ne_add1 | with_reducible apply ne_add1' | with_reducible apply ne_add2 | with_reducible apply ne_add2' | with_reducible apply ne_add12 | with_reducible apply ne_add21 | (with_reducible apply Lo.ne; (repeat (first | with_reducible assumption | with_reducible apply Lo.self | with_reducible apply Lo.new | with_reducible apply Lo.set | with_reducible apply Lo.self1 | with_reducible apply Lo.self2)); done) | (with_reducible apply Lo.ne1; (repeat (first | with_reducible assumption | with_reducible apply Lo.self | with_reducible apply Lo.new | with_reducible apply Lo.set | with_reducible apply Lo.self1 | with_reducible apply Lo.self2)); done) | (with_reducible apply Lo.ne'; (repeat (first | with_reducible assumption | with_reducible apply Lo.self | with_reducible apply Lo.new | with_reducible apply Lo.set | with_reducible apply Lo.self1 | with_reducible apply Lo.self2)); done) | (with_reducible apply Lo.ne1'; (repeat (first | with_reducible assumption | with_reducible apply Lo.self | with_reducible apply Lo.new | with_reducible apply Lo.set | with_reducible apply Lo.self1 | with_reducible apply Lo.self2)); done)); done))))); (· exact rfl); (· exact rfl); (· exact rfl))
        | (apply op_at; (· exact opD_eqb rfl rfl rfl rfl))
        | (apply op_at; (· exact opD_neqb rfl rfl rfl rfl))
        | (apply op_at; (· exact rfl))
        | refine dwp_draw _ rfl ?_
        | apply draw_nil
        | (apply all_and; (· kernel_rfl))
        | (apply was_and; (· kernel_rfl))
        | (apply draw_pure; (· (first | exact wanted_plain rfl | (apply wanted_on; (· exact rfl); (· exact rfl); (· (first | with_reducible assumption | with_reducible rfl | decide))))); (· exact rfl); (· exact rfl))
        | (apply draw_read; (· (first | exact wanted_plain rfl | (apply wanted_on; (· exact rfl); (· exact rfl); (· (first | with_reducible assumption | with_reducible rfl | decide))))); (· exact rfl); (· exact rfl))
        | (apply draw_move; (· (first | exact wanted_plain rfl | (apply wanted_on; (· exact rfl); (· exact rfl); (· (first | with_reducible assumption | with_reducible rfl | decide))))); (· exact rfl))
        | (apply draw_off; (· (first | (apply wanted_off1; (· exact rfl); (· exact rfl); (· (first | with_reducible assumption | with_reducible rfl | decide))) | (apply wanted_off0; (· exact rfl); (· exact rfl); (· (first | with_reducible assumption | with_reducible rfl | decide))) | (apply wanted_none; (· exact rfl); (· exact rfl)))))
        | (apply dwp_cond_t; (· exact rfl); (· (first | with_reducible assumption | with_reducible rfl | decide)))
        | (apply dwp_cond_f; (· exact rfl); (· (first | with_reducible assumption | with_reducible rfl | decide)))
        | (refine dwp_cond rfl ?_ ?_ <;> intro hb)
        | apply dwp_block
        | apply dwp_skip
        | apply dwp_ret
        | apply dwp_exit
        | (refine ⟨_, rfl, ?_⟩)
        | fail)
      refine ⟨hab0.trans hab3, ?_⟩
      have e : (l.take k).map Item.cells ++ [x.cells] ++ (l.drop k).map Item.cells = (putL l x).map Item.cells := by rw [putL_at (by omega) hbef hex]; simp
      rw [e] at hm3
      exact (mine_itsF_ne hm3 (by intro h; have := putL_length l x; rw [h] at this; simp at this) (by rw [putL_length]; unfold maxLen; omega)).older (Nat.le_succ _)
end Go.Det.Q

/- One's own slice grows: where it leads to. -/
namespace Go.Det
set_option linter.unusedVariables false
set_option linter.unusedSimpArgs false
section
variable {P : Program} {X : Ext} {st e : TypeId} {z by_ : Nat} {z0 : DV}
theorem appendD_nothing (E : ElemT P st e z by_ z0) {A H : DH} {R : List (List DV)} {s x : DV} {xt : Option TypeDesc} (hown : Mine A H z R s) (hnew : appendedD P e H xt x = some []) : appendD P st xt H s x = some (s, H) := by
  obtain ⟨m, rfl⟩ : ∃ m, z = m + 1 := ⟨z - 1, by have := E.pos; omega⟩
  have hc : by_ ≤ 4096 ∧ z0.cells.length = m + 1 ∧ (([] : List (List DV)).all fun r => r.length == m + 1 && r.all DV.one) = true := ⟨E.le, E.len, rfl⟩
  unfold appendD
  simp only [E.u, E.s, E.b, E.zr, hnew]
  rw [if_pos hc]
  cases hown with
  | nil h => simp
  | empty h h1 h2 h3 => simp
  | «at» h1 h2 h3 => simp
theorem op_append2 {o : Oper} {x y : Operand} {xt : TypeId} (ho : o.op = .call ⟨.builtin .append, #[x, y], #[st, xt]⟩) {env : List DV} {A H : DH} {K : DV → DH → Prop} {s d : DV} (hx : evalO env x = some s) (hy : evalO env y = some d)
    (E : ElemT P st e z by_ z0) {R new : List (List DV)} (hown : Mine A H z R s) (hab : Above A H) (hnew : appendedD P e H (P.underlying xt) d = some new) (hall : new.all (fun r => r.length == z && r.all DV.one) = true) (hlen : R.length + new.length ≤ mostD)
    (hk : ∀ s' H', Mine A H' z (R ++ new) s' → Above A H' → AboveX (fun l => A.next ≤ l ∧ leads s l) H H' → (∀ l, leads s' l → leads s l ∨ H.next ≤ l) → K s' H') : OpWp P X o env H K := by
  by_cases hn : new = []
  · subst hn
    refine op_at (v := s) (H' := H) ?_ (hk s H (by rw [List.append_nil]; exact hown) hab (.refl H) (fun l h => .inl h))
    simp only [opD, ho, mover, moveD, hx, hy, if_true]
    exact appendD_nothing E hown hnew
  · exact op_append ho hx hy E hown hab hnew hall hlen fun s' H' h1 h2 h3 h4 => hk s' H' h1 h2 h3 (fun l h => .inr (h4 hn l h))
/-- Something to be shown later. -/
structure Hold (p : Prop) : Prop where
  h : p
/-- A region, cut off: what it leaves. -/
theorem dwp_cutAt {id : Nat} {ops : Array Oper} {dr : Bool} {st : DSt} {Q : DExit → DSt → Prop} (R : DSt → Prop) (h1 : Hold (Dwp P X (.region id ops dr) st (fun e st' => e = .normal ∧ R st'))) (h2 : ∀ st', R st' → Q .normal st') : Dwp P X (.region id ops dr) st Q :=
  h1.h.mono fun e st' he => by obtain ⟨rfl, hr⟩ := he; exact h2 st' hr
end
end Go.Det

/- Heaps, by the document's reference: sorted, with a thing more, without one. -/
namespace Go.Det.Q
open Go Go.Det Go.Proofs
set_option maxRecDepth 4000
set_option maxHeartbeats 4000000
set_option linter.unusedVariables false
set_option linter.unusedSimpArgs false
def sortL (l : List Item) : List Item := l.foldl putL []
theorem foldl_putL_length : ∀ (l m : List Item), (l.foldl putL m).length = m.length + l.length
  | [], m => rfl
  | x :: l, m => by rw [List.foldl_cons, foldl_putL_length l, putL_length, List.length_cons]; omega
theorem sortL_length (l : List Item) : (sortL l).length = l.length := by unfold sortL; rw [foldl_putL_length]; simp
theorem sortL_step {l : List Item} {k : Nat} {x : Item} (hx : l[k]? = some x) : sortL (l.take (k + 1)) = putL (sortL (l.take k)) x := by
  unfold sortL
  rw [List.take_add_one, hx, List.foldl_append]
  rfl
theorem sorted22 (H : DH) (p : Option (Nat × Nat × Nat)) (c : Nat) (ex : Bool) (l : List Item) (hl : It H p c ex l) (hn : l.length ≤ 1000000) :
    CallWp Try.prog X4 22 [.sl p l.length c ex] H (fun r H' => Above H H' ∧ ItsF H H' r (sortL l)) := by
  refine enter rfl Try.func22 rfl Try.ntmps22 rfl ?_
  dsimp only [List.cons_append, List.nil_append, List.length_cons, List.length_nil, List.replicate_succ, List.replicate_zero, Nat.reduceAdd, Nat.reduceSub]
  repeat' (first
    | dsimp only [putD, DV.cells, DH.new_next, DH.set_next, List.length_cons, List.length_nil, Nat.reduceAdd, List.set_cons_zero, List.set_cons_succ, getD_zero, getD_succ, fieldAt_zero, fieldAt_succ, thenD, blockD, retR]
    | apply dwp_seq
    | apply dwp_region
    | apply ops_nil
    | (apply ops_plain; (· exact rfl))
    | (apply ops_on; (· exact rfl); (· exact rfl); (· (first | with_reducible assumption | with_reducible rfl | decide)))
    | (apply ops_off1; (· exact rfl); (· exact rfl); (· (first | with_reducible assumption | with_reducible rfl | decide)))
    | (apply ops_off0; (· exact rfl); (· exact rfl); (· (first | with_reducible assumption | with_reducible rfl | decide)))
    | (apply ops_offn; (· exact rfl); (· exact rfl))
    | (apply ops_split1; (· exact rfl); (· exact rfl); all_goals intro hb)
    | (apply ops_split0; (· exact rfl); (· exact rfl); all_goals intro hb)
    | (apply op_pick_t; (· exact rfl); (· exact rfl); (· (first | with_reducible assumption | with_reducible rfl | decide)); (· exact rfl))
    | (apply op_pick_f; (· exact rfl); (· exact rfl); (· (first | with_reducible assumption | with_reducible rfl | decide)); (· exact rfl))
    | (apply op_load_at; (· exact rfl); (· exact rfl); (· repeat (first | with_reducible assumption | (with_reducible apply obj_here; with_reducible rfl) | with_reducible apply obj_set | (with_reducible apply obj_skip_lo; (· ((repeat (first | with_reducible assumption | with_reducible apply Lo.self | with_reducible apply Lo.new | with_reducible apply Lo.set | with_reducible apply Lo.self1 | with_reducible apply Lo.self2)); done))) | (with_reducible apply obj_past; (· ((first | with_reducible assumption | with_reducible apply ne_add1 | with_reducible apply ne_add1' | with_reducible apply ne_add2 | with_reducible apply ne_add2' | with_reducible apply ne_add12 | with_reducible apply ne_add21 | (with_reducible apply Lo.ne; (repeat (first | with_reducible assumption | with_reducible apply Lo.self | with_reducible apply Lo.new | with_reducible apply Lo.set | with_reducible apply Lo.self1 | with_reducible apply Lo.self2)); done) | (with_reducible apply Lo.ne1; (repeat (first | with_reducible assumption | with_reducible apply Lo.self | with_reducible apply Lo.new | with_reducible apply Lo.set | with_reducible apply Lo.self1 | with_reducible apply Lo.self2)); done) | (with_reducible apply Lo.ne'; (repeat (first | with_reducible assumption | with_reducible apply Lo.self | with_reducible apply Lo.new | with_reducible apply Lo.set | with_reducible apply Lo.self1 | with_reducible apply Lo.self2)); done) | (with_reducible apply Lo.ne1'; (repeat (first | with_reducible assumption | with_reducible apply Lo.self | with_reducible apply Lo.new | with_reducible apply Lo.set | with_reducible apply Lo.self1 | with_reducible apply Lo.self2)); done)); done))))); (· exact rfl); (· exact rfl))
    | (apply op_store_at; (· exact rfl); (· exact rfl); (· exact rfl); (· repeat (first | with_reducible assumption | (with_reducible apply obj_here; with_reducible rfl) | with_reducible apply obj_set | (with_reducible apply obj_skip_lo; (· ((repeat (first | with_reducible assumption | with_reducible apply Lo.self | with_reducible apply Lo.new | with_reducible apply Lo.set | with_reducible apply Lo.self1 | with_reducible apply Lo.self2)); done))) | (with_reducible apply obj_past; (· ((first | with_reducible assumption | with_reducible apply ne_add1 | with_reducible apply ne_add1' | with_reducible apply ne_add2 | with_reducible apply ne_add2' | with_reducible apply ne_add12 | with_reducible apply ne_add21 | (with_reducible apply Lo.ne; (repeat (first | with_reducible assumption | with_reducible apply Lo.self | with_reducible apply Lo.new | with_reducible apply Lo.set | with_reducible apply Lo.self1 | with_reducible apply Lo.self2)); done) | (with_reducible apply Lo.ne1; (repeat (first | with_reducible assumption | with_reducible apply Lo.self | with_reducible apply Lo.new | with_reducible apply Lo.set | with_reducible apply Lo.self1 | with_reducible apply Lo.self2)); done) | (with_reducible apply Lo.ne'; (repeat (first | with_reducible assumption | with_reducible apply Lo.self | with_reducible apply Lo.new | with_reducible apply Lo.set | with_reducible apply Lo.self1 | with_reducible apply Lo.self2)); done) | (with_reducible apply Lo.ne1'; (repeat (first | with_reducible assumption | with_reducible apply Lo.self | with_reducible apply Lo.new | with_reducible apply Lo.set | with_reducible apply Lo.self1 | with_reducible apply Lo.self2)); done)); done))))); (· exact rfl); (· exact rfl); (· exact rfl))
    | (apply op_at; (· exact opD_eqb rfl rfl rfl rfl))
    | (apply op_at; (· exact opD_neqb rfl rfl rfl rfl))
    | (apply op_at; (· exact rfl))
    | (apply dwp_cond_t; (· exact rfl); (· (first | with_reducible assumption | with_reducible rfl | decide)))
    | (apply dwp_cond_f; (· exact rfl); (· (first | with_reducible assumption | with_reducible rfl | decide)))
    | (refine dwp_cond rfl ?_ ?_ <;> intro hb)
    | apply dwp_block
    | apply dwp_skip
    | apply dwp_ret
    | apply dwp_exit
    | (refine ⟨_, rfl, ?_⟩)
    | fail)
  refine dwp_loop (fun st => ∃ (Hk : DH) (k : Nat) (s : DV), ∃ J : Nat → DV, (k ≤ l.length ∧ Above H Hk ∧ ItsF H Hk s (sortL (l.take k))) ∧ st = ⟨[.sl p l.length c ex, J 1, J 2, s, J 4, J 5, .sl p l.length c ex, .int .i64 l.length, .int .i64 (k : Int), J 9, J 10, J 11, J 12, J 13, J 14, J 15, J 16], Hk⟩) (fun st => l.length - kOf st 8) (⟨H, 0, _, junk_facts (⟨Nat.zero_le _, Above.refl H, ⟨none, 0, true, rfl, .nil0 H, fun _ _ _ h => (by cases h)⟩⟩) rfl rfl⟩) ?_
  rintro st ⟨Hk, k, s, J, ⟨hk, hab, hs⟩, rfl⟩
  by_cases hlt : k < l.length
  · obtain ⟨x, hx⟩ : ∃ x, l[k]? = some x := ⟨l[k], List.getElem?_eq_getElem hlt⟩
    obtain ⟨loc, i0, ro, rs, rfl, hloc, ho, hrx⟩ := (hl.mono hab).rd hx
    have hr1 : rs[i0 + ((k : Int)).toNat]? = some x.cells := by rw [Int.toNat_natCast]; exact hrx
    have hc : decide ((k : Int) < (l.length : Int)) = true := by simp [hlt]
    have hin1 : 0 ≤ (k : Int) ∧ (k : Int) < (l.length : Int) := by omega
    have hw := wrapNat (k := k) (by omega)
    obtain ⟨p2, c2, e2, rfl, hi2, hf2⟩ := hs
    have hk2 : (sortL (l.take k)).length ≤ 1000000 := by rw [sortL_length, List.length_take]; omega
    have hab2 : Above Hk ((Hk.new (.rows false 6 [itemZero])).set Hk.next (some (.rows false 6 [x.cells]))) := ((Above.refl Hk).new _).set (Nat.le_refl _) _
    repeat' (first
      | dsimp only [putD, DV.cells, DH.new_next, DH.set_next, List.length_cons, List.length_nil, Nat.reduceAdd, List.set_cons_zero, List.set_cons_succ, getD_zero, getD_succ, fieldAt_zero, fieldAt_succ, thenD, blockD, retR]
      | apply dwp_seq
      | apply dwp_region
      | apply ops_nil
      | (apply ops_plain; (· exact rfl))
      | (apply ops_on; (· exact rfl); (· exact rfl); (· (first | with_reducible assumption | with_reducible rfl | decide)))
      | (apply ops_off1; (· exact rfl); (· exact rfl); (· (first | with_reducible assumption | with_reducible rfl | decide)))
      | (apply ops_off0; (· exact rfl); (· exact rfl); (· (first | with_reducible assumption | with_reducible rfl | decide)))
      | (apply ops_offn; (· exact rfl); (· exact rfl))
      | (apply ops_split1; (· exact rfl); (· exact rfl); all_goals intro hb)
      | (apply ops_split0; (· exact rfl); (· exact rfl); all_goals intro hb)
      | (apply op_call; (· exact rfl); (· exact rfl); (· exact rfl); refine (put57 _ p2 c2 e2 _ x (hi2.mono hab2) hk2).mono ?_; rintro r H1 ⟨hab3, hr⟩)
      | (apply op_pick_t; (· exact rfl); (· exact rfl); (· (first | with_reducible assumption | with_reducible rfl | decide)); (· exact rfl))
      | (apply op_pick_f; (· exact rfl); (· exact rfl); (· (first | with_reducible assumption | with_reducible rfl | decide)); (· exact rfl))
      | (apply op_index_at; (· exact rfl); (· exact rfl); (· exact rfl); (· with_reducible exact hin1); (· exact rfl); (· exact rfl))
      | (apply op_load_at; (· exact rfl); (· exact rfl); (· with_reducible exact ho); (· with_reducible exact hr1); (· exact (item_part x)))
      | (apply op_load_at; (· exact rfl); (· exact rfl); (· repeat (first | with_reducible assumption | (with_reducible apply obj_here; with_reducible rfl) | with_reducible apply obj_set | (with_reducible apply obj_skip_lo; (· ((repeat (first | with_reducible assumption | with_reducible apply Lo.self | with_reducible apply Lo.new | with_reducible apply Lo.set | with_reducible apply Lo.self1 | with_reducible apply Lo.self2)); done))) | (with_reducible apply obj_past; (· ((first | with_reducible assumption | with_reducible apply ne_add1 | with_reducible apply ne_add1' | with_reducible apply ne_add2 | with_reducible apply ne_add2' | with_reducible apply ne_add12 | with_reducible apply ne_add21 | (with_reducible apply Lo.ne; (repeat (first | with_reducible assumption | with_reducible apply Lo.self | with_reducible apply Lo.new | with_reducible apply Lo.set | with_reducible apply Lo.self1 | with_reducible apply Lo.self2)); done) | (with_reducible apply Lo.ne1; (repeat (first | with_reducible assumption | with_reducible apply Lo.self | with_reducible apply Lo.new | with_reducible apply Lo.set | with_reducible apply Lo.self1 | with_reducible apply Lo.self2)); done) | (with_reducible apply Lo.ne'; (repeat (first | with_reducible assumption | with_reducible apply Lo.self | with_reducible apply Lo.new | with_reducible apply Lo.set | with_reducible apply Lo.self1 | with_reducible apply Lo.self2)); done) | (with_reducible apply Lo.ne1'; (repeat (first | with_reducible assumption | with_reducible apply Lo.self | with_reducible apply Lo.new | with_reducible apply Lo.set | with_reducible apply Lo.self1 | with_reducible apply Lo.self2)); done)); done))))); (· exact rfl); (· exact item_part x))
      | (apply op_load_at; (· exact rfl); (· exact rfl); (· repeat (first | with_reducible assumption | (with_reducible apply obj_here; with_reducible rfl) | with_reducible apply obj_set | (with_reducible apply obj_skip_lo; (· ((repeat (first | with_reducible assumption | with_reducible apply Lo.self | with_reducible apply Lo.new | with_reducible apply Lo.set | with_reducible apply Lo.self1 | with_reducible apply Lo.self2)); done))) | (with_reducible apply obj_past; (· ((first | with_reducible assumption | with_reducible apply ne_add1 | with_reducible apply ne_add1' | with_reducible apply ne_add2 | with_reducible apply ne_add2' | with_reducible apply ne_add12 | with_reducible apply ne_add21 | (with_reducible apply Lo.ne; (repeat (first | with_reducible assumption | with_reducible apply Lo.self | with_reducible apply Lo.new | with_reducible apply Lo.set | with_reducible apply Lo.self1 | with_reducible apply Lo.self2)); done) | (with_reducible apply Lo.ne1; (repeat (first | with_reducible assumption | with_reducible apply Lo.self | with_reducible apply Lo.new | with_reducible apply Lo.set | with_reducible apply Lo.self1 | with_reducible apply Lo.self2)); done) | (with_reducible apply Lo.ne'; (repeat (first | with_reducible assumption | with_reducible apply Lo.self | with_reducible apply Lo.new | with_reducible apply Lo.set | with_reducible apply Lo.self1 | with_reducible apply Lo.self2)); done) | (with_reducible apply Lo.ne1'; (repeat (first | with_reducible assumption | with_reducible apply Lo.self | with_reducible apply Lo.new | with_reducible apply Lo.set | with_reducible apply Lo.self1 | with_reducible apply Lo.self2)); done)); done))))); (· exact rfl); (· exact rfl))
      | (apply op_store_at; (· exact rfl); (· exact rfl); (· exact rfl); (· repeat (first | with_reducible assumption | (with_reducible apply obj_here; with_reducible rfl) | with_reducible apply obj_set | (with_reducible apply obj_skip_lo; (· ((repeat (first | with_reducible assumption | with_reducible apply Lo.self | with_reducible apply Lo.new | with_reducible apply Lo.set | with_reducible apply Lo.self1 | with_reducible apply Lo.self2)); done))) | (with_reducible apply obj_past; (· ((first | with_reducible assumption | with_reducible apply ne_add1 | with_reducible apply ne_add1' | with_reducible apply ne_add2 | with_reducible apply ne_add2' | with_reducible apply ne_add12 | with_reducible apply ne_add21 | (with_reducible apply Lo.ne; (repeat (first | with_reducible assumption | with_reducible apply Lo.self | with_reducible apply Lo.new | with_reducible apply Lo.set | with_reducible apply Lo.self1 | with_reducible apply Lo.self2)); done) | (with_reducible apply Lo.ne1; (repeat (first | with_reducible assumption | with_reducible apply Lo.self | with_reducible apply Lo.new | with_reducible apply Lo.set | with_reducible apply Lo.self1 | with_reducible apply Lo.self2)); done) | (with_reducible apply Lo.ne'; (repeat (first | with_reducible assumption | with_reducible apply Lo.self | with_reducible apply Lo.new | with_reducible apply Lo.set | with_reducible apply Lo.self1 | with_reducible apply Lo.self2)); done) | (with_reducible apply Lo.ne1'; (repeat (first | with_reducible assumption | with_reducible apply Lo.self | with_reducible apply Lo.new | with_reducible apply Lo.set | with_reducible apply Lo.self1 | with_reducible apply Lo.self2)); done)); done))))); (· exact rfl); (· exact rfl); (· exact rfl))
      | (apply op_at; (· exact opD_eqb rfl rfl rfl rfl))
      | (apply op_at; (· exact opD_neqb rfl rfl rfl rfl))
      | (apply op_at; (· exact rfl))
      | (apply dwp_cond_t; (· exact rfl); (· (first | with_reducible assumption | with_reducible rfl | decide)))
      | (apply dwp_cond_f; (· exact rfl); (· (first | with_reducible assumption | with_reducible rfl | decide)))
      | (refine dwp_cond rfl ?_ ?_ <;> intro hb)
      | apply dwp_block
      | apply dwp_skip
      | apply dwp_ret
      | apply dwp_exit
      | (refine ⟨_, rfl, ?_⟩)
      | fail)
    rw [hw]
    refine ⟨⟨_, k + 1, _, junk_facts (⟨by omega, hab.trans (hab2.trans hab3), by rw [sortL_step hx]; exact hr.older (Nat.le_trans hab.le hab2.le)⟩) rfl rfl⟩, ?_⟩
    show l.length - ((k + 1 : Nat) : Int).toNat < l.length - (k : Int).toNat
    omega
  · have hc : decide ((k : Int) < (l.length : Int)) = false := by simp; omega
    obtain rfl : k = l.length := by omega
    rw [List.take_length] at hs
    repeat' (first
      | dsimp only [putD, DV.cells, DH.new_next, DH.set_next, List.length_cons, List.length_nil, Nat.reduceAdd, List.set_cons_zero, List.set_cons_succ, getD_zero, getD_succ, fieldAt_zero, fieldAt_succ, thenD, blockD, retR]
      | apply dwp_seq
      | apply dwp_region
      | apply ops_nil
      | (apply ops_plain; (· exact rfl))
      | (apply ops_on; (· exact rfl); (· exact rfl); (· (first | with_reducible assumption | with_reducible rfl | decide)))
      | (apply ops_off1; (· exact rfl); (· exact rfl); (· (first | with_reducible assumption | with_reducible rfl | decide)))
      | (apply ops_off0; (· exact rfl); (· exact rfl); (· (first | with_reducible assumption | with_reducible rfl | decide)))
      | (apply ops_offn; (· exact rfl); (· exact rfl))
      | (apply ops_split1; (· exact rfl); (· exact rfl); all_goals intro hb)
      | (apply ops_split0; (· exact rfl); (· exact rfl); all_goals intro hb)
      | (apply op_pick_t; (· exact rfl); (· exact rfl); (· (first | with_reducible assumption | with_reducible rfl | decide)); (· exact rfl))
      | (apply op_pick_f; (· exact rfl); (· exact rfl); (· (first | with_reducible assumption | with_reducible rfl | decide)); (· exact rfl))
      | (apply op_load_at; (· exact rfl); (· exact rfl); (· repeat (first | with_reducible assumption | (with_reducible apply obj_here; with_reducible rfl) | with_reducible apply obj_set | (with_reducible apply obj_skip_lo; (· ((repeat (first | with_reducible assumption | with_reducible apply Lo.self | with_reducible apply Lo.new | with_reducible apply Lo.set | with_reducible apply Lo.self1 | with_reducible apply Lo.self2)); done))) | (with_reducible apply obj_past; (· ((first | with_reducible assumption | with_reducible apply ne_add1 | with_reducible apply ne_add1' | with_reducible apply ne_add2 | with_reducible apply ne_add2' | with_reducible apply ne_add12 | with_reducible apply ne_add21 | (with_reducible apply Lo.ne; (repeat (first | with_reducible assumption | with_reducible apply Lo.self | with_reducible apply Lo.new | with_reducible apply Lo.set | with_reducible apply Lo.self1 | with_reducible apply Lo.self2)); done) | (with_reducible apply Lo.ne1; (repeat (first | with_reducible assumption | with_reducible apply Lo.self | with_reducible apply Lo.new | with_reducible apply Lo.set | with_reducible apply Lo.self1 | with_reducible apply Lo.self2)); done) | (with_reducible apply Lo.ne'; (repeat (first | with_reducible assumption | with_reducible apply Lo.self | with_reducible apply Lo.new | with_reducible apply Lo.set | with_reducible apply Lo.self1 | with_reducible apply Lo.self2)); done) | (with_reducible apply Lo.ne1'; (repeat (first | with_reducible assumption | with_reducible apply Lo.self | with_reducible apply Lo.new | with_reducible apply Lo.set | with_reducible apply Lo.self1 | with_reducible apply Lo.self2)); done)); done))))); (· exact rfl); (· exact rfl))
      | (apply op_store_at; (· exact rfl); (· exact rfl); (· exact rfl); (· repeat (first | with_reducible assumption | (with_reducible apply obj_here; with_reducible rfl) | with_reducible apply obj_set | (with_reducible apply obj_skip_lo; (· ((repeat (first | with_reducible assumption | with_reducible apply Lo.self | with_reducible apply Lo.new | with_reducible apply Lo.set | with_reducible apply Lo.self1 | with_reducible apply Lo.self2)); done))) | (with_reducible apply obj_past; (· ((first | with_reducible assumption | with_reducible apply ne_add1 | with_reducible apply ne_add1' | with_reducible apply ne_add2 | with_reducible apply ne_add2' | with_reducible apply ne_add12 | with_reducible apply ne_add21 | (with_reducible apply Lo.ne; (repeat (first | with_reducible assumption | with_reducible apply Lo.self | with_reducible apply Lo.new | with_reducible apply Lo.set | with_reducible apply Lo.self1 | with_reducible apply Lo.self2)); done) | (with_reducible apply Lo.ne1; (repeat (first | with_reducible assumption | with_reducible apply Lo.self | with_reducible apply Lo.new | with_reducible apply Lo.set | with_reducible apply Lo.self1 | with_reducible apply Lo.self2)); done) | (with_reducible apply Lo.ne'; (repeat (first | with_reducible assumption | with_reducible apply Lo.self | with_reducible apply Lo.new | with_reducible apply Lo.set | with_reducible apply Lo.self1 | with_reducible apply Lo.self2)); done) | (with_reducible apply Lo.ne1'; (repeat (first | with_reducible assumption | with_reducible apply Lo.self | with_reducible apply Lo.new | with_reducible apply Lo.set | with_reducible apply Lo.self1 | with_reducible apply Lo.self2)); done)); done))))); (· exact rfl); (· exact rfl); (· exact rfl))
      | (apply op_at; (· exact opD_eqb rfl rfl rfl rfl))
      | (apply op_at; (· exact opD_neqb rfl rfl rfl rfl))
      | (apply op_at; (· exact rfl))
      | (apply dwp_cond_t; (· exact rfl); (· (first | with_reducible assumption | with_reducible rfl | decide)))
      | (apply dwp_cond_f; (· exact rfl); (· (first | with_reducible assumption | with_reducible rfl | decide)))
      | (refine dwp_cond rfl ?_ ?_ <;> intro hb)
      | apply dwp_block
      | apply dwp_skip
      | apply dwp_ret
      | apply dwp_exit
      | (refine ⟨_, rfl, ?_⟩)
      | fail)
    exact ⟨hab, hs⟩
theorem rpush26 (H : DH) (p : Option (Nat × Nat × Nat)) (c : Nat) (ex : Bool) (l : List Item) (x : Item) (hl : It H p c ex l) (hn : l.length ≤ 1000000) :
    CallWp Try.prog X4 26 [.sl p l.length c ex, .agg x.cells] H (fun r H' => Above H H' ∧
      ((checkB l = false ∧ r = .tuple [.sl none 0 0 true, .int .i64 1]) ∨ (checkB l = true ∧ l.length = 4096 ∧ r = .tuple [.sl none 0 0 true, .int .i64 7]) ∨
       (checkB l = true ∧ l.length ≠ 4096 ∧ ∃ s, r = .tuple [s, .int .i64 0] ∧ ItsF H H' s (putL (sortL l) x)))) := by
  have hab0 : Above H (H.new (.rows false 6 [x.cells])) := (Above.refl H).new _
  have hchk := (hl.mono hab0).check
  cases hcb : checkB l with
  | false =>
    rw [hcb] at hchk
    refine enter rfl Try.func26 rfl Try.ntmps26 rfl ?_
    dsimp only [List.cons_append, List.nil_append, List.length_cons, List.length_nil, List.replicate_succ, List.replicate_zero, Nat.reduceAdd, Nat.reduceSub]
    repeat' (first
      | dsimp only [putD, DV.cells, DH.new_next, DH.set_next, List.length_cons, List.length_nil, Nat.reduceAdd, List.set_cons_zero, List.set_cons_succ, getD_zero, getD_succ, fieldAt_zero, fieldAt_succ, thenD, blockD, retR]
      | apply dwp_seq
      | apply dwp_region
      | apply ops_nil
      | (apply ops_plain; (· exact rfl))
      | (apply ops_on; (· exact rfl); (· exact rfl); (· (first | with_reducible assumption | with_reducible rfl | decide)))
      | (apply ops_off1; (· exact rfl); (· exact rfl); (· (first | with_reducible assumption | with_reducible rfl | decide)))
      | (apply ops_off0; (· exact rfl); (· exact rfl); (· (first | with_reducible assumption | with_reducible rfl | decide)))
      | (apply ops_offn; (· exact rfl); (· exact rfl))
      | (apply ops_split1; (· exact rfl); (· exact rfl); all_goals intro hb)
      | (apply ops_split0; (· exact rfl); (· exact rfl); all_goals intro hb)
      | (apply op_call; (· exact rfl); (· exact rfl); (· exact rfl); refine call_table (g := gCheck) rfl hchk ?_)
      | (apply op_pick_t; (· exact rfl); (· exact rfl); (· (first | with_reducible assumption | with_reducible rfl | decide)); (· exact rfl))
      | (apply op_pick_f; (· exact rfl); (· exact rfl); (· (first | with_reducible assumption | with_reducible rfl | decide)); (· exact rfl))
      | (apply op_load_at; (· exact rfl); (· exact rfl); (· repeat (first | with_reducible assumption | (with_reducible apply obj_here; with_reducible rfl) | with_reducible apply obj_set | (with_reducible apply obj_skip_lo; (· ((repeat (first | with_reducible assumption | with_reducible apply Lo.self | with_reducible apply Lo.new | with_reducible apply Lo.set | with_reducible apply Lo.self1 | with_reducible apply Lo.self2)); done))) | (with_reducible apply obj_past; (· ((first | with_reducible assumption | with_reducible apply ne_add1 | with_reducible apply ne_add1' | with_reducible apply ne_add2 | with_reducible apply ne_add2' | with_reducible apply ne_add12 | with_reducible apply ne_add21 | (with_reducible apply Lo.ne; (repeat (first | with_reducible assumption | with_reducible apply Lo.self | with_reducible apply Lo.new | with_reducible apply Lo.set | with_reducible apply Lo.self1 | with_reducible apply Lo.self2)); done) | (with_reducible apply Lo.ne1; (repeat (first | with_reducible assumption | with_reducible apply Lo.self | with_reducible apply Lo.new | with_reducible apply Lo.set | with_reducible apply Lo.self1 | with_reducible apply Lo.self2)); done) | (with_reducible apply Lo.ne'; (repeat (first | with_reducible assumption | with_reducible apply Lo.self | with_reducible apply Lo.new | with_reducible apply Lo.set | with_reducible apply Lo.self1 | with_reducible apply Lo.self2)); done) | (with_reducible apply Lo.ne1'; (repeat (first | with_reducible assumption | with_reducible apply Lo.self | with_reducible apply Lo.new | with_reducible apply Lo.set | with_reducible apply Lo.self1 | with_reducible apply Lo.self2)); done)); done))))); (· exact rfl); (· exact rfl))
      | (apply op_store_at; (· exact rfl); (· exact rfl); (· exact rfl); (· repeat (first | with_reducible assumption | (with_reducible apply obj_here; with_reducible rfl) | with_reducible apply obj_set | (with_reducible apply obj_skip_lo; (· ((repeat (first | with_reducible assumption | with_reducible apply Lo.self | with_reducible apply Lo.new | with_reducible apply Lo.set | with_reducible apply Lo.self1 | with_reducible apply Lo.self2)); done))) | (with_reducible apply obj_past; (· ((first | with_reducible assumption | with_reducible apply ne_add1 | with_reducible apply ne_add1' | with_reducible apply ne_add2 | with_reducible apply ne_add2' | with_reducible apply ne_add12 | with_reducible apply ne_add21 | (with_reducible apply Lo.ne; (repeat (first | with_reducible assumption | with_reducible apply Lo.self | with_reducible apply Lo.new | with_reducible apply Lo.set | with_reducible apply Lo.self1 | with_reducible apply Lo.self2)); done) | (with_reducible apply Lo.ne1; (repeat (first | with_reducible assumption | with_reducible apply Lo.self | with_reducible apply Lo.new | with_reducible apply Lo.set | with_reducible apply Lo.self1 | with_reducible apply Lo.self2)); done) | (with_reducible apply Lo.ne'; (repeat (first | with_reducible assumption | with_reducible apply Lo.self | with_reducible apply Lo.new | with_reducible apply Lo.set | with_reducible apply Lo.self1 | with_reducible apply Lo.self2)); done) | (with_reducible apply Lo.ne1'; (repeat (first | with_reducible assumption | with_reducible apply Lo.self | with_reducible apply Lo.new | with_reducible apply Lo.set | with_reducible apply Lo.self1 | with_reducible apply Lo.self2)); done)); done))))); (· exact rfl); (· exact rfl); (· exact rfl))
      | (apply op_at; (· exact opD_eqb rfl rfl rfl rfl))
      | (apply op_at; (· exact opD_neqb rfl rfl rfl rfl))
      | (apply op_at; (· exact rfl))
      | (apply dwp_cond_t; (· exact rfl); (· (first | with_reducible assumption | with_reducible rfl | decide)))
      | (apply dwp_cond_f; (· exact rfl); (· (first | with_reducible assumption | with_reducible rfl | decide)))
      | (refine dwp_cond rfl ?_ ?_ <;> intro hb)
      | apply dwp_block
      | apply dwp_skip
      | apply dwp_ret
      | apply dwp_exit
      | (refine ⟨_, rfl, ?_⟩)
      | fail)
    exact ⟨hab0, .inl ⟨by simp, rfl⟩⟩
  | true =>
    rw [hcb] at hchk
    have h4096 : l.length ≤ 4096 := by
      unfold checkB at hcb
      simp only [Bool.and_eq_true, decide_eq_true_eq] at hcb
      exact hcb.2
    by_cases h4 : l.length = 4096
    · have hc : decide ((l.length : Int) ≥ 4096) = true := by simp [h4]
      refine enter rfl Try.func26 rfl Try.ntmps26 rfl ?_
      dsimp only [List.cons_append, List.nil_append, List.length_cons, List.length_nil, List.replicate_succ, List.replicate_zero, Nat.reduceAdd, Nat.reduceSub]
      repeat' (first
        | dsimp only [putD, DV.cells, DH.new_next, DH.set_next, List.length_cons, List.length_nil, Nat.reduceAdd, List.set_cons_zero, List.set_cons_succ, getD_zero, getD_succ, fieldAt_zero, fieldAt_succ, thenD, blockD, retR]
        | apply dwp_seq
        | apply dwp_region
        | apply ops_nil
        | (apply ops_plain; (· exact rfl))
        | (apply ops_on; (· exact rfl); (· exact rfl); (· (first | with_reducible assumption | with_reducible rfl | decide)))
        | (apply ops_off1; (· exact rfl); (· exact rfl); (· (first | with_reducible assumption | with_reducible rfl | decide)))
        | (apply ops_off0; (· exact rfl); (· exact rfl); (· (first | with_reducible assumption | with_reducible rfl | decide)))
        | (apply ops_offn; (· exact rfl); (· exact rfl))
        | (apply ops_split1; (· exact rfl); (· exact rfl); all_goals intro hb)
        | (apply ops_split0; (· exact rfl); (· exact rfl); all_goals intro hb)
        | (apply op_call; (· exact rfl); (· exact rfl); (· exact rfl); refine call_table (g := gCheck) rfl hchk ?_)
        | (apply op_pick_t; (· exact rfl); (· exact rfl); (· (first | with_reducible assumption | with_reducible rfl | decide)); (· exact rfl))
        | (apply op_pick_f; (· exact rfl); (· exact rfl); (· (first | with_reducible assumption | with_reducible rfl | decide)); (· exact rfl))
        | (apply op_load_at; (· exact rfl); (· exact rfl); (· repeat (first | with_reducible assumption | (with_reducible apply obj_here; with_reducible rfl) | with_reducible apply obj_set | (with_reducible apply obj_skip_lo; (· ((repeat (first | with_reducible assumption | with_reducible apply Lo.self | with_reducible apply Lo.new | with_reducible apply Lo.set | with_reducible apply Lo.self1 | with_reducible apply Lo.self2)); done))) | (with_reducible apply obj_past; (· ((first | with_reducible assumption | with_reducible apply ne_add1 | with_reducible apply ne_add1' | with_reducible apply ne_add2 | with_reducible apply ne_add2' | with_reducible apply ne_add12 | with_reducible apply ne_add21 | (with_reducible apply Lo.ne; (repeat (first | with_reducible assumption | with_reducible apply Lo.self | with_reducible apply Lo.new | with_reducible apply Lo.set | with_reducible apply Lo.self1 | with_reducible apply Lo.self2)); done) | (with_reducible apply Lo.ne1; (repeat (first | with_reducible assumption | with_reducible apply Lo.self | with_reducible apply Lo.new | with_reducible apply Lo.set | with_reducible apply Lo.self1 | with_reducible apply Lo.self2)); done) | (with_reducible apply Lo.ne'; (repeat (first | with_reducible assumption | with_reducible apply Lo.self | with_reducible apply Lo.new | with_reducible apply Lo.set | with_reducible apply Lo.self1 | with_reducible apply Lo.self2)); done) | (with_reducible apply Lo.ne1'; (repeat (first | with_reducible assumption | with_reducible apply Lo.self | with_reducible apply Lo.new | with_reducible apply Lo.set | with_reducible apply Lo.self1 | with_reducible apply Lo.self2)); done)); done))))); (· exact rfl); (· exact rfl))
        | (apply op_store_at; (· exact rfl); (· exact rfl); (· exact rfl); (· repeat (first | with_reducible assumption | (with_reducible apply obj_here; with_reducible rfl) | with_reducible apply obj_set | (with_reducible apply obj_skip_lo; (· ((repeat (first | with_reducible assumption | with_reducible apply Lo.self | with_reducible apply Lo.new | with_reducible apply Lo.set | with_reducible apply Lo.self1 | with_reducible apply Lo.self2)); done))) | (with_reducible apply obj_past; (· ((first | with_reducible assumption | with_reducible apply ne_add1 | with_reducible apply ne_add1' | with_reducible apply ne_add2 | with_reducible apply ne_add2' | with_reducible apply ne_add12 | with_reducible apply ne_add21 | (with_reducible apply Lo.ne; (repeat (first | with_reducible assumption | with_reducible apply Lo.self | with_reducible apply Lo.new | with_reducible apply Lo.set | with_reducible apply Lo.self1 | with_reducible apply Lo.self2)); done) | (with_reducible apply Lo.ne1; (repeat (first | with_reducible assumption | with_reducible apply Lo.self | with_reducible apply Lo.new | with_reducible apply Lo.set | with_reducible apply Lo.self1 | with_reducible apply Lo.self2)); done) | (with_reducible apply Lo.ne'; (repeat (first | with_reducible assumption | with_reducible apply Lo.self | with_reducible apply Lo.new | with_reducible apply Lo.set | with_reducible apply Lo.self1 | with_reducible apply Lo.self2)); done) | (with_reducible apply Lo.ne1'; (repeat (first | with_reducible assumption | with_reducible apply Lo.self | with_reducible apply Lo.new | with_reducible apply Lo.set | with_reducible apply Lo.self1 | with_reducible apply Lo.self2)); done)); done))))); (· exact rfl); (· exact rfl); (· exact rfl))
        | (apply op_at; (· exact opD_eqb rfl rfl rfl rfl))
        | (apply op_at; (· exact opD_neqb rfl rfl rfl rfl))
        | (apply op_at; (· exact rfl))
        | (apply dwp_cond_t; (· exact rfl); (· (first | with_reducible assumption | with_reducible rfl | decide)))
        | (apply dwp_cond_f; (· exact rfl); (· (first | with_reducible assumption | with_reducible rfl | decide)))
        | (refine dwp_cond rfl ?_ ?_ <;> intro hb)
        | apply dwp_block
        | apply dwp_skip
        | apply dwp_ret
        | apply dwp_exit
        | (refine ⟨_, rfl, ?_⟩)
        | fail)
      exact ⟨hab0, .inr (.inl ⟨by simp, h4, rfl⟩)⟩
    · have hc : decide ((l.length : Int) ≥ 4096) = false := by simp only [decide_eq_false_iff_not]; omega
      refine enter rfl Try.func26 rfl Try.ntmps26 rfl ?_
      dsimp only [List.cons_append, List.nil_append, List.length_cons, List.length_nil, List.replicate_succ, List.replicate_zero, Nat.reduceAdd, Nat.reduceSub]
      repeat' (first
        | dsimp only [putD, DV.cells, DH.new_next, DH.set_next, List.length_cons, List.length_nil, Nat.reduceAdd, List.set_cons_zero, List.set_cons_succ, getD_zero, getD_succ, fieldAt_zero, fieldAt_succ, thenD, blockD, retR]
        | (apply drawp_read; (· (first | exact wanted_plain rfl | (apply wanted_on; (· exact rfl); (· exact rfl); (· (first | with_reducible assumption | with_reducible rfl | decide))))); (· exact rfl); (· exact rfl); (· decide +kernel); (· intro H' h; have h : Above _ _ := h; exact opD_load rfl rfl (h.obj (l := H.next) (by exact Nat.lt_succ_self _) (by exact obj_here rfl)) (rfl) (item_part x)))
        | apply dwp_seq
        | apply dwp_region
        | apply ops_nil
        | (apply ops_plain; (· exact rfl))
        | (apply ops_on; (· exact rfl); (· exact rfl); (· (first | with_reducible assumption | with_reducible rfl | decide)))
        | (apply ops_off1; (· exact rfl); (· exact rfl); (· (first | with_reducible assumption | with_reducible rfl | decide)))
        | (apply ops_off0; (· exact rfl); (· exact rfl); (· (first | with_reducible assumption | with_reducible rfl | decide)))
        | (apply ops_offn; (· exact rfl); (· exact rfl))
        | (apply ops_split1; (· exact rfl); (· exact rfl); all_goals intro hb)
        | (apply ops_split0; (· exact rfl); (· exact rfl); all_goals intro hb)
        | (apply op_call; (· exact rfl); (· exact rfl); (· exact rfl); refine call_table (g := gCheck) rfl hchk ?_)
        | (apply op_call; (· exact rfl); (· exact rfl); (· exact rfl); refine (sorted22 _ p c ex l (hl.mono hab0) hn).mono ?_; rintro r1 H1 ⟨hab1, ⟨p2, c2, e2, heq, hi2, hf2⟩⟩; subst heq; refine ⟨hab1, ?_⟩)
        | (apply op_call; (· exact rfl); (· exact rfl); (· exact rfl); refine (put57 _ p2 c2 e2 _ x hi2 (by rw [sortL_length]; exact hn)).mono ?_; rintro r2 H2 ⟨hab2, hr2⟩; refine ⟨hab1.trans hab2, ?_⟩)
        | (apply op_pick_t; (· exact rfl); (· exact rfl); (· (first | with_reducible assumption | with_reducible rfl | decide)); (· exact rfl))
        | (apply op_pick_f; (· exact rfl); (· exact rfl); (· (first | with_reducible assumption | with_reducible rfl | decide)); (· exact rfl))
        | (apply op_load_at; (· exact rfl); (· exact rfl); (· repeat (first | with_reducible assumption | (with_reducible apply obj_here; with_reducible rfl) | with_reducible apply obj_set | (with_reducible apply obj_skip_lo; (· ((repeat (first | with_reducible assumption | with_reducible apply Lo.self | with_reducible apply Lo.new | with_reducible apply Lo.set | with_reducible apply Lo.self1 | with_reducible apply Lo.self2)); done))) | (with_reducible apply obj_past; (· ((first | with_reducible assumption | with_reducible apply ne_add1 | with_reducible apply ne_add1' | with_reducible apply ne_add2 | with_reducible apply ne_add2' | with_reducible apply ne_add12 | with_reducible apply ne_add21 | (with_reducible apply Lo.ne; (repeat (first | with_reducible assumption | with_reducible apply Lo.self | with_reducible apply Lo.new | with_reducible apply Lo.set | with_reducible apply Lo.self1 | with_reducible apply Lo.self2)); done) | (with_reducible apply Lo.ne1; (repeat (first | with_reducible assumption | with_reducible apply Lo.self | with_reducible apply Lo.new | with_reducible apply Lo.set | with_reducible apply Lo.self1 | with_reducible apply Lo.self2)); done) | (with_reducible apply Lo.ne'; (repeat (first | with_reducible assumption | with_reducible apply Lo.self | with_reducible apply Lo.new | with_reducible apply Lo.set | with_reducible apply Lo.self1 | with_reducible apply Lo.self2)); done) | (with_reducible apply Lo.ne1'; (repeat (first | with_reducible assumption | with_reducible apply Lo.self | with_reducible apply Lo.new | with_reducible apply Lo.set | with_reducible apply Lo.self1 | with_reducible apply Lo.self2)); done)); done))))); (· exact rfl); (· exact rfl))
        | (apply op_store_at; (· exact rfl); (· exact rfl); (· exact rfl); (· repeat (first | with_reducible assumption | (with_reducible apply obj_here; with_reducible rfl) | with_reducible apply obj_set | (with_reducible apply obj_skip_lo; (· ((repeat (first | with_reducible assumption | with_reducible apply Lo.self | with_reducible apply Lo.new | with_reducible apply Lo.set | with_reducible apply Lo.self1 | with_reducible apply Lo.self2)); done))) | (with_reducible apply obj_past; (· ((first | with_reducible assumption | with_reducible apply ne_add1 | with_reducible apply ne_add1' | with_reducible apply ne_add2 | with_reducible apply ne_add2' | with_reducible apply ne_add12 | with_reducible apply ne_add21 | (with_reducible apply Lo.ne; (repeat (first | with_reducible assumption | with_reducible apply Lo.self | with_reducible apply Lo.new | with_reducible apply Lo.set | with_reducible apply Lo.self1 | with_reducible apply Lo.self2)); done) | (with_reducible apply Lo.ne1; (repeat (first | with_reducible assumption | with_reducible apply Lo.self | with_reducible apply Lo.new | with_reducible apply Lo.set | with_reducible apply Lo.self1 | with_reducible apply Lo.self2)); done) | (with_reducible apply Lo.ne'; (repeat (first | with_reducible assumption | with_reducible apply Lo.self | with_reducible apply Lo.new | with_reducible apply Lo.set | with_reducible apply Lo.self1 | with_reducible apply Lo.self2)); done) | (with_reducible apply Lo.ne1'; (repeat (first | with_reducible assumption | with_reducible apply Lo.self | with_reducible apply Lo.new | with_reducible apply Lo.set | with_reducible apply Lo.self1 | with_reducible apply Lo.self2)); done)); done))))); (· exact rfl); (· exact rfl); (· exact rfl))
        | (apply op_at; (· exact opD_eqb rfl rfl rfl rfl))
        | (apply op_at; (· exact opD_neqb rfl rfl rfl rfl))
        | (apply op_at; (· exact rfl))
        | refine dwp_drawp _ rfl (fun H' => Above _ H') (Above.refl _) ?_
        | apply drawp_nil
        | apply tand
        | (apply drawp_pick_t; (· (first | exact wanted_plain rfl | (apply wanted_on; (· exact rfl); (· exact rfl); (· (first | with_reducible assumption | with_reducible rfl | decide))))); (· exact rfl); (· exact rfl); (· (first | with_reducible assumption | with_reducible rfl | decide)); (· exact rfl))
        | (apply drawp_pick_f; (· (first | exact wanted_plain rfl | (apply wanted_on; (· exact rfl); (· exact rfl); (· (first | with_reducible assumption | with_reducible rfl | decide))))); (· exact rfl); (· exact rfl); (· (first | with_reducible assumption | with_reducible rfl | decide)); (· exact rfl))
        | (apply drawp_pure; (· (first | exact wanted_plain rfl | (apply wanted_on; (· exact rfl); (· exact rfl); (· (first | with_reducible assumption | with_reducible rfl | decide))))); (· exact rfl); (· exact rfl); (· exact rfl))
        | (apply drawp_sync_st (fun _ => True); (· exact rfl); (· (first | exact wanted_plain rfl | (apply wanted_on; (· exact rfl); (· exact rfl); (· (first | with_reducible assumption | with_reducible rfl | decide))))); (· decide +kernel))
        | (apply drawp_move; (· (first | exact wanted_plain rfl | (apply wanted_on; (· exact rfl); (· exact rfl); (· (first | with_reducible assumption | with_reducible rfl | decide))))); (· exact rfl); (· decide +kernel))
        | (apply drawp_off; (· (first | (apply wanted_off1; (· exact rfl); (· exact rfl); (· (first | with_reducible assumption | with_reducible rfl | decide))) | (apply wanted_off0; (· exact rfl); (· exact rfl); (· (first | with_reducible assumption | with_reducible rfl | decide))) | (apply wanted_none; (· exact rfl); (· exact rfl)))))
        | (apply dwp_cond_t; (· exact rfl); (· (first | with_reducible assumption | with_reducible rfl | decide)))
        | (apply dwp_cond_f; (· exact rfl); (· (first | with_reducible assumption | with_reducible rfl | decide)))
        | (refine dwp_cond rfl ?_ ?_ <;> intro hb)
        | apply dwp_block
        | apply dwp_skip
        | apply dwp_ret
        | apply dwp_exit
        | (refine ⟨_, rfl, ?_⟩)
        | fail)
      exact ⟨(hab0.trans hab1).trans hab2, .inr (.inr ⟨by simp, h4, _, rfl, hr2.older (hab0.trans hab1).le⟩)⟩
theorem rpop27 (H : DH) (p : Option (Nat × Nat × Nat)) (c : Nat) (ex : Bool) (l : List Item) (hl : It H p c ex l) (hn : l.length ≤ 1000000) :
    CallWp Try.prog X4 27 [.sl p l.length c ex] H (fun r H' => Above H H' ∧
      ((checkB l = false ∧ r = .tuple [.agg itemZero, .sl none 0 0 true, .int .i64 1]) ∨ (checkB l = true ∧ l = [] ∧ r = .tuple [.agg itemZero, .sl none 0 0 true, .int .i64 8]) ∨
       (checkB l = true ∧ ∃ x s, (sortL l)[0]? = some x ∧ r = .tuple [.agg x.cells, s, .int .i64 0] ∧ ItsF H H' s ((sortL l).drop 1)))) := by
  have hab0 : Above H (H.new (.rows false 6 [itemZero])) := (Above.refl H).new _
  have hchk := (hl.mono hab0).check
  cases hcb : checkB l with
  | false =>
    rw [hcb] at hchk
    refine enter rfl Try.func27 rfl Try.ntmps27 rfl ?_
    dsimp only [List.cons_append, List.nil_append, List.length_cons, List.length_nil, List.replicate_succ, List.replicate_zero, Nat.reduceAdd, Nat.reduceSub]
    repeat' (first
      | dsimp only [putD, DV.cells, DH.new_next, DH.set_next, List.length_cons, List.length_nil, Nat.reduceAdd, List.set_cons_zero, List.set_cons_succ, getD_zero, getD_succ, fieldAt_zero, fieldAt_succ, thenD, blockD, retR]
      | (refine ⟨_, resOf_ctt (loadD_at rfl (by repeat (first | with_reducible assumption | (with_reducible apply obj_here; with_reducible rfl) | with_reducible apply obj_set | (with_reducible apply obj_skip_lo; (· ((repeat (first | with_reducible assumption | with_reducible apply Lo.self | with_reducible apply Lo.new | with_reducible apply Lo.set | with_reducible apply Lo.self1 | with_reducible apply Lo.self2)); done))) | (with_reducible apply obj_past; (· ((first | with_reducible assumption | with_reducible apply ne_add1 | with_reducible apply ne_add1' | with_reducible apply ne_add2 | with_reducible apply ne_add2' | with_reducible apply ne_add12 | with_reducible apply ne_add21 | (with_reducible apply Lo.ne; (repeat (first | with_reducible assumption | with_reducible apply Lo.self | with_reducible apply Lo.new | with_reducible apply Lo.set | with_reducible apply Lo.self1 | with_reducible apply Lo.self2)); done) | (with_reducible apply Lo.ne1; (repeat (first | with_reducible assumption | with_reducible apply Lo.self | with_reducible apply Lo.new | with_reducible apply Lo.set | with_reducible apply Lo.self1 | with_reducible apply Lo.self2)); done) | (with_reducible apply Lo.ne'; (repeat (first | with_reducible assumption | with_reducible apply Lo.self | with_reducible apply Lo.new | with_reducible apply Lo.set | with_reducible apply Lo.self1 | with_reducible apply Lo.self2)); done) | (with_reducible apply Lo.ne1'; (repeat (first | with_reducible assumption | with_reducible apply Lo.self | with_reducible apply Lo.new | with_reducible apply Lo.set | with_reducible apply Lo.self1 | with_reducible apply Lo.self2)); done)); done))))) rfl rfl), ?_⟩)
      | apply dwp_seq
      | apply dwp_region
      | apply ops_nil
      | (apply ops_plain; (· exact rfl))
      | (apply ops_on; (· exact rfl); (· exact rfl); (· (first | with_reducible assumption | with_reducible rfl | decide)))
      | (apply ops_off1; (· exact rfl); (· exact rfl); (· (first | with_reducible assumption | with_reducible rfl | decide)))
      | (apply ops_off0; (· exact rfl); (· exact rfl); (· (first | with_reducible assumption | with_reducible rfl | decide)))
      | (apply ops_offn; (· exact rfl); (· exact rfl))
      | (apply ops_split1; (· exact rfl); (· exact rfl); all_goals intro hb)
      | (apply ops_split0; (· exact rfl); (· exact rfl); all_goals intro hb)
      | (apply op_call; (· exact rfl); (· exact rfl); (· exact rfl); refine call_table (g := gCheck) rfl hchk ?_)
      | (apply op_pick_t; (· exact rfl); (· exact rfl); (· (first | with_reducible assumption | with_reducible rfl | decide)); (· exact rfl))
      | (apply op_pick_f; (· exact rfl); (· exact rfl); (· (first | with_reducible assumption | with_reducible rfl | decide)); (· exact rfl))
      | (apply op_load_at; (· exact rfl); (· exact rfl); (· repeat (first | with_reducible assumption | (with_reducible apply obj_here; with_reducible rfl) | with_reducible apply obj_set | (with_reducible apply obj_skip_lo; (· ((repeat (first | with_reducible assumption | with_reducible apply Lo.self | with_reducible apply Lo.new | with_reducible apply Lo.set | with_reducible apply Lo.self1 | with_reducible apply Lo.self2)); done))) | (with_reducible apply obj_past; (· ((first | with_reducible assumption | with_reducible apply ne_add1 | with_reducible apply ne_add1' | with_reducible apply ne_add2 | with_reducible apply ne_add2' | with_reducible apply ne_add12 | with_reducible apply ne_add21 | (with_reducible apply Lo.ne; (repeat (first | with_reducible assumption | with_reducible apply Lo.self | with_reducible apply Lo.new | with_reducible apply Lo.set | with_reducible apply Lo.self1 | with_reducible apply Lo.self2)); done) | (with_reducible apply Lo.ne1; (repeat (first | with_reducible assumption | with_reducible apply Lo.self | with_reducible apply Lo.new | with_reducible apply Lo.set | with_reducible apply Lo.self1 | with_reducible apply Lo.self2)); done) | (with_reducible apply Lo.ne'; (repeat (first | with_reducible assumption | with_reducible apply Lo.self | with_reducible apply Lo.new | with_reducible apply Lo.set | with_reducible apply Lo.self1 | with_reducible apply Lo.self2)); done) | (with_reducible apply Lo.ne1'; (repeat (first | with_reducible assumption | with_reducible apply Lo.self | with_reducible apply Lo.new | with_reducible apply Lo.set | with_reducible apply Lo.self1 | with_reducible apply Lo.self2)); done)); done))))); (· exact rfl); (· exact rfl))
      | (apply op_store_at; (· exact rfl); (· exact rfl); (· exact rfl); (· repeat (first | with_reducible assumption | (with_reducible apply obj_here; with_reducible rfl) | with_reducible apply obj_set | (with_reducible apply obj_skip_lo; (· ((repeat (first | with_reducible assumption | with_reducible apply Lo.self | with_reducible apply Lo.new | with_reducible apply Lo.set | with_reducible apply Lo.self1 | with_reducible apply Lo.self2)); done))) | (with_reducible apply obj_past; (· ((first | with_reducible assumption | with_reducible apply ne_add1 | with_reducible apply ne_add1' | with_reducible apply ne_add2 | with_reducible apply ne_add2' | with_reducible apply ne_add12 | with_reducible apply ne_add21 | (with_reducible apply Lo.ne; (repeat (first | with_reducible assumption | with_reducible apply Lo.self | with_reducible apply Lo.new | with_reducible apply Lo.set | with_reducible apply Lo.self1 | with_reducible apply Lo.self2)); done) | (with_reducible apply Lo.ne1; (repeat (first | with_reducible assumption | with_reducible apply Lo.self | with_reducible apply Lo.new | with_reducible apply Lo.set | with_reducible apply Lo.self1 | with_reducible apply Lo.self2)); done) | (with_reducible apply Lo.ne'; (repeat (first | with_reducible assumption | with_reducible apply Lo.self | with_reducible apply Lo.new | with_reducible apply Lo.set | with_reducible apply Lo.self1 | with_reducible apply Lo.self2)); done) | (with_reducible apply Lo.ne1'; (repeat (first | with_reducible assumption | with_reducible apply Lo.self | with_reducible apply Lo.new | with_reducible apply Lo.set | with_reducible apply Lo.self1 | with_reducible apply Lo.self2)); done)); done))))); (· exact rfl); (· exact rfl); (· exact rfl))
      | (apply op_at; (· exact opD_eqb rfl rfl rfl rfl))
      | (apply op_at; (· exact opD_neqb rfl rfl rfl rfl))
      | (apply op_at; (· exact rfl))
      | (apply dwp_cond_t; (· exact rfl); (· (first | with_reducible assumption | with_reducible rfl | decide)))
      | (apply dwp_cond_f; (· exact rfl); (· (first | with_reducible assumption | with_reducible rfl | decide)))
      | (refine dwp_cond rfl ?_ ?_ <;> intro hb)
      | apply dwp_block
      | apply dwp_skip
      | apply dwp_ret
      | apply dwp_exit
      | (refine ⟨_, rfl, ?_⟩)
      | fail)
    exact ⟨hab0.set (Nat.le_refl _) _, .inl ⟨by simp, rfl⟩⟩
  | true =>
    rw [hcb] at hchk
    by_cases h0 : l.length = 0
    · have hc : ((l.length : Int) == 0) = true := by simp [h0]
      refine enter rfl Try.func27 rfl Try.ntmps27 rfl ?_
      dsimp only [List.cons_append, List.nil_append, List.length_cons, List.length_nil, List.replicate_succ, List.replicate_zero, Nat.reduceAdd, Nat.reduceSub]
      repeat' (first
        | dsimp only [putD, DV.cells, DH.new_next, DH.set_next, List.length_cons, List.length_nil, Nat.reduceAdd, List.set_cons_zero, List.set_cons_succ, getD_zero, getD_succ, fieldAt_zero, fieldAt_succ, thenD, blockD, retR]
        | (refine ⟨_, resOf_ctt (loadD_at rfl (by repeat (first | with_reducible assumption | (with_reducible apply obj_here; with_reducible rfl) | with_reducible apply obj_set | (with_reducible apply obj_skip_lo; (· ((repeat (first | with_reducible assumption | with_reducible apply Lo.self | with_reducible apply Lo.new | with_reducible apply Lo.set | with_reducible apply Lo.self1 | with_reducible apply Lo.self2)); done))) | (with_reducible apply obj_past; (· ((first | with_reducible assumption | with_reducible apply ne_add1 | with_reducible apply ne_add1' | with_reducible apply ne_add2 | with_reducible apply ne_add2' | with_reducible apply ne_add12 | with_reducible apply ne_add21 | (with_reducible apply Lo.ne; (repeat (first | with_reducible assumption | with_reducible apply Lo.self | with_reducible apply Lo.new | with_reducible apply Lo.set | with_reducible apply Lo.self1 | with_reducible apply Lo.self2)); done) | (with_reducible apply Lo.ne1; (repeat (first | with_reducible assumption | with_reducible apply Lo.self | with_reducible apply Lo.new | with_reducible apply Lo.set | with_reducible apply Lo.self1 | with_reducible apply Lo.self2)); done) | (with_reducible apply Lo.ne'; (repeat (first | with_reducible assumption | with_reducible apply Lo.self | with_reducible apply Lo.new | with_reducible apply Lo.set | with_reducible apply Lo.self1 | with_reducible apply Lo.self2)); done) | (with_reducible apply Lo.ne1'; (repeat (first | with_reducible assumption | with_reducible apply Lo.self | with_reducible apply Lo.new | with_reducible apply Lo.set | with_reducible apply Lo.self1 | with_reducible apply Lo.self2)); done)); done))))) rfl rfl), ?_⟩)
        | apply dwp_seq
        | apply dwp_region
        | apply ops_nil
        | (apply ops_plain; (· exact rfl))
        | (apply ops_on; (· exact rfl); (· exact rfl); (· (first | with_reducible assumption | with_reducible rfl | decide)))
        | (apply ops_off1; (· exact rfl); (· exact rfl); (· (first | with_reducible assumption | with_reducible rfl | decide)))
        | (apply ops_off0; (· exact rfl); (· exact rfl); (· (first | with_reducible assumption | with_reducible rfl | decide)))
        | (apply ops_offn; (· exact rfl); (· exact rfl))
        | (apply ops_split1; (· exact rfl); (· exact rfl); all_goals intro hb)
        | (apply ops_split0; (· exact rfl); (· exact rfl); all_goals intro hb)
        | (apply op_call; (· exact rfl); (· exact rfl); (· exact rfl); refine call_table (g := gCheck) rfl hchk ?_)
        | (apply op_pick_t; (· exact rfl); (· exact rfl); (· (first | with_reducible assumption | with_reducible rfl | decide)); (· exact rfl))
        | (apply op_pick_f; (· exact rfl); (· exact rfl); (· (first | with_reducible assumption | with_reducible rfl | decide)); (· exact rfl))
        | (apply op_load_at; (· exact rfl); (· exact rfl); (· repeat (first | with_reducible assumption | (with_reducible apply obj_here; with_reducible rfl) | with_reducible apply obj_set | (with_reducible apply obj_skip_lo; (· ((repeat (first | with_reducible assumption | with_reducible apply Lo.self | with_reducible apply Lo.new | with_reducible apply Lo.set | with_reducible apply Lo.self1 | with_reducible apply Lo.self2)); done))) | (with_reducible apply obj_past; (· ((first | with_reducible assumption | with_reducible apply ne_add1 | with_reducible apply ne_add1' | with_reducible apply ne_add2 | with_reducible apply ne_add2' | with_reducible apply ne_add12 | with_reducible apply ne_add21 | (with_reducible apply Lo.ne; (repeat (first | with_reducible assumption | with_reducible apply Lo.self | with_reducible apply Lo.new | with_reducible apply Lo.set | with_reducible apply Lo.self1 | with_reducible apply Lo.self2)); done) | (with_reducible apply Lo.ne1; (repeat (first | with_reducible assumption | with_reducible apply Lo.self | with_reducible apply Lo.new | with_reducible apply Lo.set | with_reducible apply Lo.self1 | with_reducible apply Lo.self2)); done) | (with_reducible apply Lo.ne'; (repeat (first | with_reducible assumption | with_reducible apply Lo.self | with_reducible apply Lo.new | with_reducible apply Lo.set | with_reducible apply Lo.self1 | with_reducible apply Lo.self2)); done) | (with_reducible apply Lo.ne1'; (repeat (first | with_reducible assumption | with_reducible apply Lo.self | with_reducible apply Lo.new | with_reducible apply Lo.set | with_reducible apply Lo.self1 | with_reducible apply Lo.self2)); done)); done))))); (· exact rfl); (· exact rfl))
        | (apply op_store_at; (· exact rfl); (· exact rfl); (· exact rfl); (· repeat (first | with_reducible assumption | (with_reducible apply obj_here; with_reducible rfl) | with_reducible apply obj_set | (with_reducible apply obj_skip_lo; (· ((repeat (first | with_reducible assumption | with_reducible apply Lo.self | with_reducible apply Lo.new | with_reducible apply Lo.set | with_reducible apply Lo.self1 | with_reducible apply Lo.self2)); done))) | (with_reducible apply obj_past; (· ((first | with_reducible assumption | with_reducible apply ne_add1 | with_reducible apply ne_add1' | with_reducible apply ne_add2 | with_reducible apply ne_add2' | with_reducible apply ne_add12 | with_reducible apply ne_add21 | (with_reducible apply Lo.ne; (repeat (first | with_reducible assumption | with_reducible apply Lo.self | with_reducible apply Lo.new | with_reducible apply Lo.set | with_reducible apply Lo.self1 | with_reducible apply Lo.self2)); done) | (with_reducible apply Lo.ne1; (repeat (first | with_reducible assumption | with_reducible apply Lo.self | with_reducible apply Lo.new | with_reducible apply Lo.set | with_reducible apply Lo.self1 | with_reducible apply Lo.self2)); done) | (with_reducible apply Lo.ne'; (repeat (first | with_reducible assumption | with_reducible apply Lo.self | with_reducible apply Lo.new | with_reducible apply Lo.set | with_reducible apply Lo.self1 | with_reducible apply Lo.self2)); done) | (with_reducible apply Lo.ne1'; (repeat (first | with_reducible assumption | with_reducible apply Lo.self | with_reducible apply Lo.new | with_reducible apply Lo.set | with_reducible apply Lo.self1 | with_reducible apply Lo.self2)); done)); done))))); (· exact rfl); (· exact rfl); (· exact rfl))
        | (apply op_at; (· exact opD_eqb rfl rfl rfl rfl))
        | (apply op_at; (· exact opD_neqb rfl rfl rfl rfl))
        | (apply op_at; (· exact rfl))
        | (apply dwp_cond_t; (· exact rfl); (· (first | with_reducible assumption | with_reducible rfl | decide)))
        | (apply dwp_cond_f; (· exact rfl); (· (first | with_reducible assumption | with_reducible rfl | decide)))
        | (refine dwp_cond rfl ?_ ?_ <;> intro hb)
        | apply dwp_block
        | apply dwp_skip
        | apply dwp_ret
        | apply dwp_exit
        | (refine ⟨_, rfl, ?_⟩)
        | fail)
      exact ⟨hab0.set (Nat.le_refl _) _, .inr (.inl ⟨by simp, List.length_eq_zero_iff.mp h0, rfl⟩)⟩
    · have hc : ((l.length : Int) == 0) = false := by simp only [beq_eq_false_iff_ne]; omega
      have hsl := sortL_length l
      obtain ⟨x, hx⟩ : ∃ x, (sortL l)[0]? = some x := ⟨(sortL l)[0]'(by omega), List.getElem?_eq_getElem _⟩
      refine enter rfl Try.func27 rfl Try.ntmps27 rfl ?_
      dsimp only [List.cons_append, List.nil_append, List.length_cons, List.length_nil, List.replicate_succ, List.replicate_zero, Nat.reduceAdd, Nat.reduceSub]
      repeat' (first
        | dsimp only [putD, DV.cells, DH.new_next, DH.set_next, List.length_cons, List.length_nil, Nat.reduceAdd, List.set_cons_zero, List.set_cons_succ, getD_zero, getD_succ, fieldAt_zero, fieldAt_succ, thenD, blockD, retR]
        | (refine ⟨_, resOf_ctt (loadD_at rfl (by repeat (first | with_reducible assumption | (with_reducible apply obj_here; with_reducible rfl) | with_reducible apply obj_set | (with_reducible apply obj_skip_lo; (· ((repeat (first | with_reducible assumption | with_reducible apply Lo.self | with_reducible apply Lo.new | with_reducible apply Lo.set | with_reducible apply Lo.self1 | with_reducible apply Lo.self2)); done))) | (with_reducible apply obj_past; (· ((first | with_reducible assumption | with_reducible apply ne_add1 | with_reducible apply ne_add1' | with_reducible apply ne_add2 | with_reducible apply ne_add2' | with_reducible apply ne_add12 | with_reducible apply ne_add21 | (with_reducible apply Lo.ne; (repeat (first | with_reducible assumption | with_reducible apply Lo.self | with_reducible apply Lo.new | with_reducible apply Lo.set | with_reducible apply Lo.self1 | with_reducible apply Lo.self2)); done) | (with_reducible apply Lo.ne1; (repeat (first | with_reducible assumption | with_reducible apply Lo.self | with_reducible apply Lo.new | with_reducible apply Lo.set | with_reducible apply Lo.self1 | with_reducible apply Lo.self2)); done) | (with_reducible apply Lo.ne'; (repeat (first | with_reducible assumption | with_reducible apply Lo.self | with_reducible apply Lo.new | with_reducible apply Lo.set | with_reducible apply Lo.self1 | with_reducible apply Lo.self2)); done) | (with_reducible apply Lo.ne1'; (repeat (first | with_reducible assumption | with_reducible apply Lo.self | with_reducible apply Lo.new | with_reducible apply Lo.set | with_reducible apply Lo.self1 | with_reducible apply Lo.self2)); done)); done))))) rfl rfl), ?_⟩)
        | apply dwp_seq
        | apply dwp_region
        | apply ops_nil
        | (apply ops_plain; (· exact rfl))
        | (apply ops_on; (· exact rfl); (· exact rfl); (· (first | with_reducible assumption | with_reducible rfl | decide)))
        | (apply ops_off1; (· exact rfl); (· exact rfl); (· (first | with_reducible assumption | with_reducible rfl | decide)))
        | (apply ops_off0; (· exact rfl); (· exact rfl); (· (first | with_reducible assumption | with_reducible rfl | decide)))
        | (apply ops_offn; (· exact rfl); (· exact rfl))
        | (apply ops_split1; (· exact rfl); (· exact rfl); all_goals intro hb)
        | (apply ops_split0; (· exact rfl); (· exact rfl); all_goals intro hb)
        | (apply op_call; (· exact rfl); (· exact rfl); (· exact rfl); refine call_table (g := gCheck) rfl hchk ?_)
        | (apply op_call; (· exact rfl); (· exact rfl); (· exact rfl); refine (sorted22 _ p c ex l (hl.mono hab0) hn).mono ?_; rintro r1 H1 ⟨hab1, ⟨p2, c2, e2, heq, hi2, hf2⟩⟩; obtain ⟨loc, i0, ro, rs, hp2, hloc, ho, hrx⟩ := hi2.rd hx; subst hp2; subst heq; have hr1 : rs[i0 + ((0 : Int)).toNat]? = some x.cells := hrx; have hin1 : 0 ≤ (0 : Int) ∧ (0 : Int) < ((sortL l).length : Int) := (by rw [hsl]; omega); have hinl : 0 ≤ (1 : Int) ∧ (1 : Int) ≤ ((sortL l).length : Int) := (by rw [hsl]; omega); have hcell1 := hab1.obj (l := H.next) (Nat.lt_succ_self _) (obj_here rfl); have hlo1 : Lo H1 H.next := lo (Nat.lt_of_lt_of_le (Nat.lt_succ_self _) hab1.le); have hlo2 : Lo H1 loc := lo hloc)
        | (apply op_pick_t; (· exact rfl); (· exact rfl); (· (first | with_reducible assumption | with_reducible rfl | decide)); (· exact rfl))
        | (apply op_pick_f; (· exact rfl); (· exact rfl); (· (first | with_reducible assumption | with_reducible rfl | decide)); (· exact rfl))
        | (apply op_index_at; (· exact rfl); (· exact rfl); (· exact rfl); (· with_reducible exact hin1); (· exact rfl); (· exact rfl))
        | (apply op_load_at; (· exact rfl); (· exact rfl); (· with_reducible exact ho); (· with_reducible exact hr1); (· exact (item_part x)))
        | (apply op_at; (· exact opD_slice_lo rfl rfl rfl rfl rfl hinl))
        | (apply op_load_at; (· exact rfl); (· exact rfl); (· repeat (first | with_reducible assumption | (with_reducible apply obj_here; with_reducible rfl) | with_reducible apply obj_set | (with_reducible apply obj_skip_lo; (· ((repeat (first | with_reducible assumption | with_reducible apply Lo.self | with_reducible apply Lo.new | with_reducible apply Lo.set | with_reducible apply Lo.self1 | with_reducible apply Lo.self2)); done))) | (with_reducible apply obj_past; (· ((first | with_reducible assumption | with_reducible apply ne_add1 | with_reducible apply ne_add1' | with_reducible apply ne_add2 | with_reducible apply ne_add2' | with_reducible apply ne_add12 | with_reducible apply ne_add21 | (with_reducible apply Lo.ne; (repeat (first | with_reducible assumption | with_reducible apply Lo.self | with_reducible apply Lo.new | with_reducible apply Lo.set | with_reducible apply Lo.self1 | with_reducible apply Lo.self2)); done) | (with_reducible apply Lo.ne1; (repeat (first | with_reducible assumption | with_reducible apply Lo.self | with_reducible apply Lo.new | with_reducible apply Lo.set | with_reducible apply Lo.self1 | with_reducible apply Lo.self2)); done) | (with_reducible apply Lo.ne'; (repeat (first | with_reducible assumption | with_reducible apply Lo.self | with_reducible apply Lo.new | with_reducible apply Lo.set | with_reducible apply Lo.self1 | with_reducible apply Lo.self2)); done) | (with_reducible apply Lo.ne1'; (repeat (first | with_reducible assumption | with_reducible apply Lo.self | with_reducible apply Lo.new | with_reducible apply Lo.set | with_reducible apply Lo.self1 | with_reducible apply Lo.self2)); done)); done))))); (· exact rfl); (· exact rfl))
        | (apply op_store_at; (· exact rfl); (· exact rfl); (· exact rfl); (· repeat (first | with_reducible assumption | (with_reducible apply obj_here; with_reducible rfl) | with_reducible apply obj_set | (with_reducible apply obj_skip_lo; (· ((repeat (first | with_reducible assumption | with_reducible apply Lo.self | with_reducible apply Lo.new | with_reducible apply Lo.set | with_reducible apply Lo.self1 | with_reducible apply Lo.self2)); done))) | (with_reducible apply obj_past; (· ((first | with_reducible assumption | with_reducible apply ne_add1 | with_reducible apply ne_add1' | with_reducible apply ne_add2 | with_reducible apply ne_add2' | with_reducible apply ne_add12 | with_reducible apply ne_add21 | (with_reducible apply Lo.ne; (repeat (first | with_reducible assumption | with_reducible apply Lo.self | with_reducible apply Lo.new | with_reducible apply Lo.set | with_reducible apply Lo.self1 | with_reducible apply Lo.self2)); done) | (with_reducible apply Lo.ne1; (repeat (first | with_reducible assumption | with_reducible apply Lo.self | with_reducible apply Lo.new | with_reducible apply Lo.set | with_reducible apply Lo.self1 | with_reducible apply Lo.self2)); done) | (with_reducible apply Lo.ne'; (repeat (first | with_reducible assumption | with_reducible apply Lo.self | with_reducible apply Lo.new | with_reducible apply Lo.set | with_reducible apply Lo.self1 | with_reducible apply Lo.self2)); done) | (with_reducible apply Lo.ne1'; (repeat (first | with_reducible assumption | with_reducible apply Lo.self | with_reducible apply Lo.new | with_reducible apply Lo.set | with_reducible apply Lo.self1 | with_reducible apply Lo.self2)); done)); done))))); (· exact rfl); (· exact rfl); (· exact rfl))
        | (apply op_at; (· exact opD_eqb rfl rfl rfl rfl))
        | (apply op_at; (· exact opD_neqb rfl rfl rfl rfl))
        | (apply op_at; (· exact rfl))
        | refine dwp_draw _ rfl ?_
        | apply draw_nil
        | (apply all_and; (· kernel_rfl))
        | (apply was_and; (· kernel_rfl))
        | (apply draw_pure; (· (first | exact wanted_plain rfl | (apply wanted_on; (· exact rfl); (· exact rfl); (· (first | with_reducible assumption | with_reducible rfl | decide))))); (· exact rfl); (· exact rfl))
        | (apply draw_read; (· (first | exact wanted_plain rfl | (apply wanted_on; (· exact rfl); (· exact rfl); (· (first | with_reducible assumption | with_reducible rfl | decide))))); (· exact rfl); (· exact rfl))
        | (apply draw_move; (· (first | exact wanted_plain rfl | (apply wanted_on; (· exact rfl); (· exact rfl); (· (first | with_reducible assumption | with_reducible rfl | decide))))); (· exact rfl))
        | (apply draw_off; (· (first | (apply wanted_off1; (· exact rfl); (· exact rfl); (· (first | with_reducible assumption | with_reducible rfl | decide))) | (apply wanted_off0; (· exact rfl); (· exact rfl); (· (first | with_reducible assumption | with_reducible rfl | decide))) | (apply wanted_none; (· exact rfl); (· exact rfl)))))
        | (apply dwp_cond_t; (· exact rfl); (· (first | with_reducible assumption | with_reducible rfl | decide)))
        | (apply dwp_cond_f; (· exact rfl); (· (first | with_reducible assumption | with_reducible rfl | decide)))
        | (refine dwp_cond rfl ?_ ?_ <;> intro hb)
        | apply dwp_block
        | apply dwp_skip
        | apply dwp_ret
        | apply dwp_exit
        | (refine ⟨_, rfl, ?_⟩)
        | fail)
      have hd := hi2.dropI (k := 1) (by omega)
      refine ⟨(hab0.trans hab1).set (Nat.le_refl _) _, .inr (.inr ⟨by simp, x, .sl (some (loc, i0 + 1, 6)) ((sortL l).drop 1).length (c2 - 1) e2, hx, ?_, ?_⟩)⟩
      · rw [List.length_drop]; rfl
      · refine ItsF.older (ItsF.set (A := H.new (.rows false 6 [itemZero])) ⟨_, _, _, rfl, hd, fun a i z e => ?_⟩ (Nat.lt_succ_self _)) (Nat.le_succ _)
        cases e
        exact hf2 _ _ _ rfl
theorem rtake29 (H : DH) (p : Option (Nat × Nat × Nat)) (c : Nat) (ex : Bool) (l : List Item) (q : Int) (hl : It H p c ex l) (hn : l.length ≤ 1000000) :
    CallWp Try.prog X4 29 [.sl p l.length c ex, .int .u64 q] H (fun r H' => Above H H' ∧
      ((checkB l = false ∧ r = .tuple [.agg itemZero, .sl none 0 0 true, .int .i64 1]) ∨ (checkB l = true ∧ (sortL l).findIdx? (fun x => x.s == q) = none ∧ r = .tuple [.agg itemZero, .sl none 0 0 true, .int .i64 8]) ∨
       (checkB l = true ∧ ∃ k x s, (sortL l).findIdx? (fun x => x.s == q) = some k ∧ (sortL l)[k]? = some x ∧ r = .tuple [.agg x.cells, s, .int .i64 0] ∧ ItsF H H' s ((sortL l).eraseIdx k)))) := by
  have hab0 : Above H (H.new (.rows false 6 [itemZero])) := (Above.refl H).new _
  have hchk := (hl.mono hab0).check
  cases hcb : checkB l with
  | false =>
    rw [hcb] at hchk
    refine enter rfl Try.func29 rfl Try.ntmps29 rfl ?_
    dsimp only [List.cons_append, List.nil_append, List.length_cons, List.length_nil, List.replicate_succ, List.replicate_zero, Nat.reduceAdd, Nat.reduceSub]
    repeat' (first
      | dsimp only [putD, DV.cells, DH.new_next, DH.set_next, List.length_cons, List.length_nil, Nat.reduceAdd, List.set_cons_zero, List.set_cons_succ, getD_zero, getD_succ, fieldAt_zero, fieldAt_succ, thenD, blockD, retR]
      | (refine ⟨_, resOf_ctt (loadD_at rfl (by repeat (first | with_reducible assumption | (with_reducible apply obj_here; with_reducible rfl) | with_reducible apply obj_set | (with_reducible apply obj_skip_lo; (· ((repeat (first | with_reducible assumption | with_reducible apply Lo.self | with_reducible apply Lo.new | with_reducible apply Lo.set | with_reducible apply Lo.self1 | with_reducible apply Lo.self2)); done))) | (with_reducible apply obj_past; (· ((first | with_reducible assumption | with_reducible apply ne_add1 | with_reducible apply ne_add1' | with_reducible apply ne_add2 | with_reducible apply ne_add2' | with_reducible apply ne_add12 | with_reducible apply ne_add21 | (with_reducible apply Lo.ne; (repeat (first | with_reducible assumption | with_reducible apply Lo.self | with_reducible apply Lo.new | with_reducible apply Lo.set | with_reducible apply Lo.self1 | with_reducible apply Lo.self2)); done) | (with_reducible apply Lo.ne1; (repeat (first | with_reducible assumption | with_reducible apply Lo.self | with_reducible apply Lo.new | with_reducible apply Lo.set | with_reducible apply Lo.self1 | with_reducible apply Lo.self2)); done) | (with_reducible apply Lo.ne'; (repeat (first | with_reducible assumption | with_reducible apply Lo.self | with_reducible apply Lo.new | with_reducible apply Lo.set | with_reducible apply Lo.self1 | with_reducible apply Lo.self2)); done) | (with_reducible apply Lo.ne1'; (repeat (first | with_reducible assumption | with_reducible apply Lo.self | with_reducible apply Lo.new | with_reducible apply Lo.set | with_reducible apply Lo.self1 | with_reducible apply Lo.self2)); done)); done))))) rfl rfl), ?_⟩)
      | apply dwp_seq
      | apply dwp_region
      | apply ops_nil
      | (apply ops_plain; (· exact rfl))
      | (apply ops_on; (· exact rfl); (· exact rfl); (· (first | with_reducible assumption | with_reducible rfl | decide)))
      | (apply ops_off1; (· exact rfl); (· exact rfl); (· (first | with_reducible assumption | with_reducible rfl | decide)))
      | (apply ops_off0; (· exact rfl); (· exact rfl); (· (first | with_reducible assumption | with_reducible rfl | decide)))
      | (apply ops_offn; (· exact rfl); (· exact rfl))
      | (apply ops_split1; (· exact rfl); (· exact rfl); all_goals intro hb)
      | (apply ops_split0; (· exact rfl); (· exact rfl); all_goals intro hb)
      | (apply op_call; (· exact rfl); (· exact rfl); (· exact rfl); refine call_table (g := gCheck) rfl hchk ?_)
      | (apply op_pick_t; (· exact rfl); (· exact rfl); (· (first | with_reducible assumption | with_reducible rfl | decide)); (· exact rfl))
      | (apply op_pick_f; (· exact rfl); (· exact rfl); (· (first | with_reducible assumption | with_reducible rfl | decide)); (· exact rfl))
      | (apply op_load_at; (· exact rfl); (· exact rfl); (· repeat (first | with_reducible assumption | (with_reducible apply obj_here; with_reducible rfl) | with_reducible apply obj_set | (with_reducible apply obj_skip_lo; (· ((repeat (first | with_reducible assumption | with_reducible apply Lo.self | with_reducible apply Lo.new | with_reducible apply Lo.set | with_reducible apply Lo.self1 | with_reducible apply Lo.self2)); done))) | (with_reducible apply obj_past; (· ((first | with_reducible assumption | with_reducible apply ne_add1 | with_reducible apply ne_add1' | with_reducible apply ne_add2 | with_reducible apply ne_add2' | with_reducible apply ne_add12 | with_reducible apply ne_add21 | (with_reducible apply Lo.ne; (repeat (first | with_reducible assumption | with_reducible apply Lo.self | with_reducible apply Lo.new | with_reducible apply Lo.set | with_reducible apply Lo.self1 | with_reducible apply Lo.self2)); done) | (with_reducible apply Lo.ne1; (repeat (first | with_reducible assumption | with_reducible apply Lo.self | with_reducible apply Lo.new | with_reducible apply Lo.set | with_reducible apply Lo.self1 | with_reducible apply Lo.self2)); done) | (with_reducible apply Lo.ne'; (repeat (first | with_reducible assumption | with_reducible apply Lo.self | with_reducible apply Lo.new | with_reducible apply Lo.set | with_reducible apply Lo.self1 | with_reducible apply Lo.self2)); done) | (with_reducible apply Lo.ne1'; (repeat (first | with_reducible assumption | with_reducible apply Lo.self | with_reducible apply Lo.new | with_reducible apply Lo.set | with_reducible apply Lo.self1 | with_reducible apply Lo.self2)); done)); done))))); (· exact rfl); (· exact rfl))
      | (apply op_store_at; (· exact rfl); (· exact rfl); (· exact rfl); (· repeat (first | with_reducible assumption | (with_reducible apply obj_here; with_reducible rfl) | with_reducible apply obj_set | (with_reducible apply obj_skip_lo; (· ((repeat (first | with_reducible assumption | with_reducible apply Lo.self | with_reducible apply Lo.new | with_reducible apply Lo.set | with_reducible apply Lo.self1 | with_reducible apply Lo.self2)); done))) | (with_reducible apply obj_past; (· ((first | with_reducible assumption | with_reducible apply ne_add1 | with_reducible apply ne_add1' | with_reducible apply ne_add2 | with_reducible apply ne_add2' | with_reducible apply ne_add12 | with_reducible apply ne_add21 | (with_reducible apply Lo.ne; (repeat (first | with_reducible assumption | with_reducible apply Lo.self | with_reducible apply Lo.new | with_reducible apply Lo.set | with_reducible apply Lo.self1 | with_reducible apply Lo.self2)); done) | (with_reducible apply Lo.ne1; (repeat (first | with_reducible assumption | with_reducible apply Lo.self | with_reducible apply Lo.new | with_reducible apply Lo.set | with_reducible apply Lo.self1 | with_reducible apply Lo.self2)); done) | (with_reducible apply Lo.ne'; (repeat (first | with_reducible assumption | with_reducible apply Lo.self | with_reducible apply Lo.new | with_reducible apply Lo.set | with_reducible apply Lo.self1 | with_reducible apply Lo.self2)); done) | (with_reducible apply Lo.ne1'; (repeat (first | with_reducible assumption | with_reducible apply Lo.self | with_reducible apply Lo.new | with_reducible apply Lo.set | with_reducible apply Lo.self1 | with_reducible apply Lo.self2)); done)); done))))); (· exact rfl); (· exact rfl); (· exact rfl))
      | (apply op_at; (· exact opD_eqb rfl rfl rfl rfl))
      | (apply op_at; (· exact opD_neqb rfl rfl rfl rfl))
      | (apply op_at; (· exact rfl))
      | (apply dwp_cond_t; (· exact rfl); (· (first | with_reducible assumption | with_reducible rfl | decide)))
      | (apply dwp_cond_f; (· exact rfl); (· (first | with_reducible assumption | with_reducible rfl | decide)))
      | (refine dwp_cond rfl ?_ ?_ <;> intro hb)
      | apply dwp_block
      | apply dwp_skip
      | apply dwp_ret
      | apply dwp_exit
      | (refine ⟨_, rfl, ?_⟩)
      | fail)
    exact ⟨hab0.set (Nat.le_refl _) _, .inl ⟨by simp, rfl⟩⟩
  | true =>
    rw [hcb] at hchk
    have hsl := sortL_length l
    cases hfi : (sortL l).findIdx? (fun x => x.s == q) with
    | none =>
      refine enter rfl Try.func29 rfl Try.ntmps29 rfl ?_
      dsimp only [List.cons_append, List.nil_append, List.length_cons, List.length_nil, List.replicate_succ, List.replicate_zero, Nat.reduceAdd, Nat.reduceSub]
      repeat' (first
        | dsimp only [putD, DV.cells, DH.new_next, DH.set_next, List.length_cons, List.length_nil, Nat.reduceAdd, List.set_cons_zero, List.set_cons_succ, getD_zero, getD_succ, fieldAt_zero, fieldAt_succ, thenD, blockD, retR]
        | (refine ⟨_, resOf_ctt (loadD_at rfl (by repeat (first | with_reducible assumption | (with_reducible apply obj_here; with_reducible rfl) | with_reducible apply obj_set | (with_reducible apply obj_skip_lo; (· ((repeat (first | with_reducible assumption | with_reducible apply Lo.self | with_reducible apply Lo.new | with_reducible apply Lo.set | with_reducible apply Lo.self1 | with_reducible apply Lo.self2)); done))) | (with_reducible apply obj_past; (· ((first | with_reducible assumption | with_reducible apply ne_add1 | with_reducible apply ne_add1' | with_reducible apply ne_add2 | with_reducible apply ne_add2' | with_reducible apply ne_add12 | with_reducible apply ne_add21 | (with_reducible apply Lo.ne; (repeat (first | with_reducible assumption | with_reducible apply Lo.self | with_reducible apply Lo.new | with_reducible apply Lo.set | with_reducible apply Lo.self1 | with_reducible apply Lo.self2)); done) | (with_reducible apply Lo.ne1; (repeat (first | with_reducible assumption | with_reducible apply Lo.self | with_reducible apply Lo.new | with_reducible apply Lo.set | with_reducible apply Lo.self1 | with_reducible apply Lo.self2)); done) | (with_reducible apply Lo.ne'; (repeat (first | with_reducible assumption | with_reducible apply Lo.self | with_reducible apply Lo.new | with_reducible apply Lo.set | with_reducible apply Lo.self1 | with_reducible apply Lo.self2)); done) | (with_reducible apply Lo.ne1'; (repeat (first | with_reducible assumption | with_reducible apply Lo.self | with_reducible apply Lo.new | with_reducible apply Lo.set | with_reducible apply Lo.self1 | with_reducible apply Lo.self2)); done)); done))))) rfl rfl), ?_⟩)
        | apply dwp_seq
        | apply dwp_region
        | apply ops_nil
        | (apply ops_plain; (· exact rfl))
        | (apply ops_on; (· exact rfl); (· exact rfl); (· (first | with_reducible assumption | with_reducible rfl | decide)))
        | (apply ops_off1; (· exact rfl); (· exact rfl); (· (first | with_reducible assumption | with_reducible rfl | decide)))
        | (apply ops_off0; (· exact rfl); (· exact rfl); (· (first | with_reducible assumption | with_reducible rfl | decide)))
        | (apply ops_offn; (· exact rfl); (· exact rfl))
        | (apply ops_split1; (· exact rfl); (· exact rfl); all_goals intro hb)
        | (apply ops_split0; (· exact rfl); (· exact rfl); all_goals intro hb)
        | (apply op_call; (· exact rfl); (· exact rfl); (· exact rfl); refine call_table (g := gCheck) rfl hchk ?_)
        | (apply op_call; (· exact rfl); (· exact rfl); (· exact rfl); refine (sorted22 _ p c ex l (hl.mono hab0) hn).mono ?_; rintro r1 H1 ⟨hab1, ⟨p2, c2, e2, heq, hi2, hf2⟩⟩; subst heq; have hfd := hi2.find q; rw [hfi] at hfd; have hcell1 := hab1.obj (l := H.next) (Nat.lt_succ_self _) (obj_here rfl); have hlo1 : Lo H1 H.next := lo (Nat.lt_of_lt_of_le (Nat.lt_succ_self _) hab1.le))
        | (apply op_call; (· exact rfl); (· exact rfl); (· exact rfl); refine call_table (g := gFind) rfl hfd ?_)
        | (apply op_pick_t; (· exact rfl); (· exact rfl); (· (first | with_reducible assumption | with_reducible rfl | decide)); (· exact rfl))
        | (apply op_pick_f; (· exact rfl); (· exact rfl); (· (first | with_reducible assumption | with_reducible rfl | decide)); (· exact rfl))
        | (apply op_load_at; (· exact rfl); (· exact rfl); (· repeat (first | with_reducible assumption | (with_reducible apply obj_here; with_reducible rfl) | with_reducible apply obj_set | (with_reducible apply obj_skip_lo; (· ((repeat (first | with_reducible assumption | with_reducible apply Lo.self | with_reducible apply Lo.new | with_reducible apply Lo.set | with_reducible apply Lo.self1 | with_reducible apply Lo.self2)); done))) | (with_reducible apply obj_past; (· ((first | with_reducible assumption | with_reducible apply ne_add1 | with_reducible apply ne_add1' | with_reducible apply ne_add2 | with_reducible apply ne_add2' | with_reducible apply ne_add12 | with_reducible apply ne_add21 | (with_reducible apply Lo.ne; (repeat (first | with_reducible assumption | with_reducible apply Lo.self | with_reducible apply Lo.new | with_reducible apply Lo.set | with_reducible apply Lo.self1 | with_reducible apply Lo.self2)); done) | (with_reducible apply Lo.ne1; (repeat (first | with_reducible assumption | with_reducible apply Lo.self | with_reducible apply Lo.new | with_reducible apply Lo.set | with_reducible apply Lo.self1 | with_reducible apply Lo.self2)); done) | (with_reducible apply Lo.ne'; (repeat (first | with_reducible assumption | with_reducible apply Lo.self | with_reducible apply Lo.new | with_reducible apply Lo.set | with_reducible apply Lo.self1 | with_reducible apply Lo.self2)); done) | (with_reducible apply Lo.ne1'; (repeat (first | with_reducible assumption | with_reducible apply Lo.self | with_reducible apply Lo.new | with_reducible apply Lo.set | with_reducible apply Lo.self1 | with_reducible apply Lo.self2)); done)); done))))); (· exact rfl); (· exact rfl))
        | (apply op_store_at; (· exact rfl); (· exact rfl); (· exact rfl); (· repeat (first | with_reducible assumption | (with_reducible apply obj_here; with_reducible rfl) | with_reducible apply obj_set | (with_reducible apply obj_skip_lo; (· ((repeat (first | with_reducible assumption | with_reducible apply Lo.self | with_reducible apply Lo.new | with_reducible apply Lo.set | with_reducible apply Lo.self1 | with_reducible apply Lo.self2)); done))) | (with_reducible apply obj_past; (· ((first | with_reducible assumption | with_reducible apply ne_add1 | with_reducible apply ne_add1' | with_reducible apply ne_add2 | with_reducible apply ne_add2' | with_reducible apply ne_add12 | with_reducible apply ne_add21 | (with_reducible apply Lo.ne; (repeat (first | with_reducible assumption | with_reducible apply Lo.self | with_reducible apply Lo.new | with_reducible apply Lo.set | with_reducible apply Lo.self1 | with_reducible apply Lo.self2)); done) | (with_reducible apply Lo.ne1; (repeat (first | with_reducible assumption | with_reducible apply Lo.self | with_reducible apply Lo.new | with_reducible apply Lo.set | with_reducible apply Lo.self1 | with_reducible apply Lo.self2)); done) | (with_reducible apply Lo.ne'; (repeat (first | with_reducible assumption | with_reducible apply Lo.self | with_reducible apply Lo.new | with_reducible apply Lo.set | with_reducible apply Lo.self1 | with_reducible apply Lo.self2)); done) | (with_reducible apply Lo.ne1'; (repeat (first | with_reducible assumption | with_reducible apply Lo.self | with_reducible apply Lo.new | with_reducible apply Lo.set | with_reducible apply Lo.self1 | with_reducible apply Lo.self2)); done)); done))))); (· exact rfl); (· exact rfl); (· exact rfl))
        | (apply op_at; (· exact opD_eqb rfl rfl rfl rfl))
        | (apply op_at; (· exact opD_neqb rfl rfl rfl rfl))
        | (apply op_at; (· exact rfl))
        | (apply dwp_cond_t; (· exact rfl); (· (first | with_reducible assumption | with_reducible rfl | decide)))
        | (apply dwp_cond_f; (· exact rfl); (· (first | with_reducible assumption | with_reducible rfl | decide)))
        | (refine dwp_cond rfl ?_ ?_ <;> intro hb)
        | apply dwp_block
        | apply dwp_skip
        | apply dwp_ret
        | apply dwp_exit
        | (refine ⟨_, rfl, ?_⟩)
        | fail)
      exact ⟨(hab0.trans hab1).set (Nat.le_refl _) _, .inr (.inl ⟨by simp, by simp, rfl⟩)⟩
    | some k =>
      have hk : k < (sortL l).length := (List.findIdx?_eq_some_iff_getElem.mp hfi).1
      obtain ⟨x, hx⟩ : ∃ x, (sortL l)[k]? = some x := ⟨(sortL l)[k], List.getElem?_eq_getElem hk⟩
      have hwk : DV.int .i64 (IntKind.i64.wrap ((k : Int) + 1)) = DV.int .i64 ((k + 1 : Nat) : Int) := by rw [wrapNat (by omega)]
      refine enter rfl Try.func29 rfl Try.ntmps29 rfl ?_
      dsimp only [List.cons_append, List.nil_append, List.length_cons, List.length_nil, List.replicate_succ, List.replicate_zero, Nat.reduceAdd, Nat.reduceSub]
      repeat' (first
        | dsimp only [putD, DV.cells, DH.new_next, DH.set_next, List.length_cons, List.length_nil, Nat.reduceAdd, List.set_cons_zero, List.set_cons_succ, getD_zero, getD_succ, fieldAt_zero, fieldAt_succ, thenD, blockD, retR]
        | (refine ⟨_, resOf_ctt (loadD_at rfl (by repeat (first | with_reducible assumption | (with_reducible apply obj_here; with_reducible rfl) | with_reducible apply obj_set | (with_reducible apply obj_skip_lo; (· ((repeat (first | with_reducible assumption | with_reducible apply Lo.self | with_reducible apply Lo.new | with_reducible apply Lo.set | with_reducible apply Lo.self1 | with_reducible apply Lo.self2)); done))) | (with_reducible apply obj_past; (· ((first | with_reducible assumption | with_reducible apply ne_add1 | with_reducible apply ne_add1' | with_reducible apply ne_add2 | with_reducible apply ne_add2' | with_reducible apply ne_add12 | with_reducible apply ne_add21 | (with_reducible apply Lo.ne; (repeat (first | with_reducible assumption | with_reducible apply Lo.self | with_reducible apply Lo.new | with_reducible apply Lo.set | with_reducible apply Lo.self1 | with_reducible apply Lo.self2)); done) | (with_reducible apply Lo.ne1; (repeat (first | with_reducible assumption | with_reducible apply Lo.self | with_reducible apply Lo.new | with_reducible apply Lo.set | with_reducible apply Lo.self1 | with_reducible apply Lo.self2)); done) | (with_reducible apply Lo.ne'; (repeat (first | with_reducible assumption | with_reducible apply Lo.self | with_reducible apply Lo.new | with_reducible apply Lo.set | with_reducible apply Lo.self1 | with_reducible apply Lo.self2)); done) | (with_reducible apply Lo.ne1'; (repeat (first | with_reducible assumption | with_reducible apply Lo.self | with_reducible apply Lo.new | with_reducible apply Lo.set | with_reducible apply Lo.self1 | with_reducible apply Lo.self2)); done)); done))))) rfl rfl), ?_⟩)
        | (apply drawp_pure; (· (first | exact wanted_plain rfl | (apply wanted_on; (· exact rfl); (· exact rfl); (· (first | with_reducible assumption | with_reducible rfl | decide))))); (· exact rfl); (· exact rfl); (· exact opD_index rfl rfl rfl rfl rfl hin1))
        | (apply drawp_read; (· (first | exact wanted_plain rfl | (apply wanted_on; (· exact rfl); (· exact rfl); (· (first | with_reducible assumption | with_reducible rfl | decide))))); (· exact rfl); (· exact rfl); (· decide +kernel); (· intro H' h; have h : Above _ _ := h; exact opD_load rfl rfl (h.obj (l := loc) (by exact hloc) (by exact ho)) (hr1) (item_part x)))
        | (apply drawp_pure; (· (first | exact wanted_plain rfl | (apply wanted_on; (· exact rfl); (· exact rfl); (· (first | with_reducible assumption | with_reducible rfl | decide))))); (· exact rfl); (· exact rfl); (· exact opD_slice_hi rfl rfl rfl rfl rfl hinh))
        | (apply drawp_pure; (· (first | exact wanted_plain rfl | (apply wanted_on; (· exact rfl); (· exact rfl); (· (first | with_reducible assumption | with_reducible rfl | decide))))); (· exact rfl); (· exact rfl); (· exact opD_slice_lo rfl rfl rfl rfl rfl hinl))
        | (apply drawp_pure; (· (first | exact wanted_plain rfl | (apply wanted_on; (· exact rfl); (· exact rfl); (· (first | with_reducible assumption | with_reducible rfl | decide))))); (· exact rfl); (· exact rfl); (· exact opD_int rfl rfl rfl rfl hwk))
        | apply dwp_seq
        | apply dwp_region
        | apply ops_nil
        | (apply ops_plain; (· exact rfl))
        | (apply ops_on; (· exact rfl); (· exact rfl); (· (first | with_reducible assumption | with_reducible rfl | decide)))
        | (apply ops_off1; (· exact rfl); (· exact rfl); (· (first | with_reducible assumption | with_reducible rfl | decide)))
        | (apply ops_off0; (· exact rfl); (· exact rfl); (· (first | with_reducible assumption | with_reducible rfl | decide)))
        | (apply ops_offn; (· exact rfl); (· exact rfl))
        | (apply ops_split1; (· exact rfl); (· exact rfl); all_goals intro hb)
        | (apply ops_split0; (· exact rfl); (· exact rfl); all_goals intro hb)
        | (apply op_call; (· exact rfl); (· exact rfl); (· exact rfl); refine call_table (g := gCheck) rfl hchk ?_)
        | (apply op_call; (· exact rfl); (· exact rfl); (· exact rfl); refine (sorted22 _ p c ex l (hl.mono hab0) hn).mono ?_; rintro r1 H1 ⟨hab1, ⟨p2, c2, e2, heq, hi2, hf2⟩⟩; subst heq; have hfd := hi2.find q; rw [hfi] at hfd; have hcell1 := hab1.obj (l := H.next) (Nat.lt_succ_self _) (obj_here rfl); have hlo1 : Lo H1 H.next := lo (Nat.lt_of_lt_of_le (Nat.lt_succ_self _) hab1.le); obtain ⟨loc, i0, ro, rs, hp2, hloc, ho, hrx⟩ := hi2.rd hx; subst hp2; have hr1 : rs[i0 + ((k : Int)).toNat]? = some x.cells := (by rw [Int.toNat_natCast]; exact hrx); have hin1 : 0 ≤ (k : Int) ∧ (k : Int) < ((sortL l).length : Int) := (by omega); have hcap := hi2.cap; have hinh : 0 ≤ (k : Int) ∧ (k : Int) ≤ (c2 : Int) := (by omega); have hinl : 0 ≤ ((k + 1 : Nat) : Int) ∧ ((k + 1 : Nat) : Int) ≤ ((sortL l).length : Int) := (by omega); have hlo2 : Lo H1 loc := lo hloc)
        | (apply op_call; (· exact rfl); (· exact rfl); (· exact rfl); refine call_table (g := gFind) rfl hfd ?_)
        | (apply op_pick_t; (· exact rfl); (· exact rfl); (· (first | with_reducible assumption | with_reducible rfl | decide)); (· exact rfl))
        | (apply op_pick_f; (· exact rfl); (· exact rfl); (· (first | with_reducible assumption | with_reducible rfl | decide)); (· exact rfl))
        | (refine op_append_fresh (xt := 23) rfl rfl rfl E23 (hi2.take (by omega) Try.underlying23) (cells_all _) (by rw [List.length_map, List.length_take]; unfold mostD; omega) ?_; intro s1 H2 hm2 hab2 hfr2; refine ⟨hab2, ?_⟩)
        | (refine op_append2 (xt := 23) rfl rfl rfl E23 hm2 hab2 ((hi2.mono hab2).drop (k := k + 1) (by omega) Try.underlying23) (cells_all _) (by rw [List.length_map, List.length_map, List.length_take, List.length_drop]; unfold mostD; omega) ?_; intro s2 H3 hm3 hab3 hax3 hfr3; have hcell3 := hab3.obj hlo1.h hcell1; have hlo3 : Lo H3 H.next := hlo1.above hab3; refine ⟨hab3, ?_⟩)
        | (apply op_load_at; (· exact rfl); (· exact rfl); (· repeat (first | with_reducible assumption | (with_reducible apply obj_here; with_reducible rfl) | with_reducible apply obj_set | (with_reducible apply obj_skip_lo; (· ((repeat (first | with_reducible assumption | with_reducible apply Lo.self | with_reducible apply Lo.new | with_reducible apply Lo.set | with_reducible apply Lo.self1 | with_reducible apply Lo.self2)); done))) | (with_reducible apply obj_past; (· ((first | with_reducible assumption | with_reducible apply ne_add1 | with_reducible apply ne_add1' | with_reducible apply ne_add2 | with_reducible apply ne_add2' | with_reducible apply ne_add12 | with_reducible apply ne_add21 | (with_reducible apply Lo.ne; (repeat (first | with_reducible assumption | with_reducible apply Lo.self | with_reducible apply Lo.new | with_reducible apply Lo.set | with_reducible apply Lo.self1 | with_reducible apply Lo.self2)); done) | (with_reducible apply Lo.ne1; (repeat (first | with_reducible assumption | with_reducible apply Lo.self | with_reducible apply Lo.new | with_reducible apply Lo.set | with_reducible apply Lo.self1 | with_reducible apply Lo.self2)); done) | (with_reducible apply Lo.ne'; (repeat (first | with_reducible assumption | with_reducible apply Lo.self | with_reducible apply Lo.new | with_reducible apply Lo.set | with_reducible apply Lo.self1 | with_reducible apply Lo.self2)); done) | (with_reducible apply Lo.ne1'; (repeat (first | with_reducible assumption | with_reducible apply Lo.self | with_reducible apply Lo.new | with_reducible apply Lo.set | with_reducible apply Lo.self1 | with_reducible apply Lo.self2)); done)); done))))); (· exact rfl); (· exact rfl))
        | (apply op_store_at; (· exact rfl); (· exact rfl); (· exact rfl); (· repeat (first | with_reducible assumption | (with_reducible apply obj_here; with_reducible rfl) | with_reducible apply obj_set | (with_reducible apply obj_skip_lo; (· ((repeat (first | with_reducible assumption | with_reducible apply Lo.self | with_reducible apply Lo.new | with_reducible apply Lo.set | with_reducible apply Lo.self1 | with_reducible apply Lo.self2)); done))) | (with_reducible apply obj_past; (· ((first | with_reducible assumption | with_reducible apply ne_add1 | with_reducible apply ne_add1' | with_reducible apply ne_add2 | with_reducible apply ne_add2' | with_reducible apply ne_add12 | with_reducible apply ne_add21 | (with_reducible apply Lo.ne; (repeat (first | with_reducible assumption | with_reducible apply Lo.self | with_reducible apply Lo.new | with_reducible apply Lo.set | with_reducible apply Lo.self1 | with_reducible apply Lo.self2)); done) | (with_reducible apply Lo.ne1; (repeat (first | with_reducible assumption | with_reducible apply Lo.self | with_reducible apply Lo.new | with_reducible apply Lo.set | with_reducible apply Lo.self1 | with_reducible apply Lo.self2)); done) | (with_reducible apply Lo.ne'; (repeat (first | with_reducible assumption | with_reducible apply Lo.self | with_reducible apply Lo.new | with_reducible apply Lo.set | with_reducible apply Lo.self1 | with_reducible apply Lo.self2)); done) | (with_reducible apply Lo.ne1'; (repeat (first | with_reducible assumption | with_reducible apply Lo.self | with_reducible apply Lo.new | with_reducible apply Lo.set | with_reducible apply Lo.self1 | with_reducible apply Lo.self2)); done)); done))))); (· exact rfl); (· exact rfl); (· exact rfl))
        | (apply op_at; (· exact opD_eqb rfl rfl rfl rfl))
        | (apply op_at; (· exact opD_neqb rfl rfl rfl rfl))
        | (apply op_at; (· exact rfl))
        | refine dwp_drawp _ rfl (fun H' => Above _ H') (Above.refl _) ?_
        | apply drawp_nil
        | apply tand
        | (apply drawp_pick_t; (· (first | exact wanted_plain rfl | (apply wanted_on; (· exact rfl); (· exact rfl); (· (first | with_reducible assumption | with_reducible rfl | decide))))); (· exact rfl); (· exact rfl); (· (first | with_reducible assumption | with_reducible rfl | decide)); (· exact rfl))
        | (apply drawp_pick_f; (· (first | exact wanted_plain rfl | (apply wanted_on; (· exact rfl); (· exact rfl); (· (first | with_reducible assumption | with_reducible rfl | decide))))); (· exact rfl); (· exact rfl); (· (first | with_reducible assumption | with_reducible rfl | decide)); (· exact rfl))
        | (apply drawp_pure; (· (first | exact wanted_plain rfl | (apply wanted_on; (· exact rfl); (· exact rfl); (· (first | with_reducible assumption | with_reducible rfl | decide))))); (· exact rfl); (· exact rfl); (· exact rfl))
        | (apply drawp_sync_st (fun _ => True); (· exact rfl); (· (first | exact wanted_plain rfl | (apply wanted_on; (· exact rfl); (· exact rfl); (· (first | with_reducible assumption | with_reducible rfl | decide))))); (· decide +kernel))
        | (apply drawp_move; (· (first | exact wanted_plain rfl | (apply wanted_on; (· exact rfl); (· exact rfl); (· (first | with_reducible assumption | with_reducible rfl | decide))))); (· exact rfl); (· decide +kernel))
        | (apply drawp_off; (· (first | (apply wanted_off1; (· exact rfl); (· exact rfl); (· (first | with_reducible assumption | with_reducible rfl | decide))) | (apply wanted_off0; (· exact rfl); (· exact rfl); (· (first | with_reducible assumption | with_reducible rfl | decide))) | (apply wanted_none; (· exact rfl); (· exact rfl)))))
        | (apply dwp_cond_t; (· exact rfl); (· (first | with_reducible assumption | with_reducible rfl | decide)))
        | (apply dwp_cond_f; (· exact rfl); (· (first | with_reducible assumption | with_reducible rfl | decide)))
        | (refine dwp_cond rfl ?_ ?_ <;> intro hb)
        | apply dwp_block
        | apply dwp_skip
        | apply dwp_ret
        | apply dwp_exit
        | (refine ⟨_, rfl, ?_⟩)
        | fail)
      rw [← List.map_append, ← List.eraseIdx_eq_take_drop_succ] at hm3
      have hlen3 : ((sortL l).eraseIdx k).length ≤ maxLen := by rw [List.length_eraseIdx]; unfold maxLen; split <;> omega
      refine ⟨((hab0.trans hab1).trans hab3).set (Nat.le_refl _) _, .inr (.inr ⟨by simp, k, x, s2, by simp, hx, rfl, ?_⟩)⟩
      obtain ⟨p3, c3, e3, rfl, hi3⟩ := it_of_mine hm3 hlen3
      have hl3 : ∀ a i z, p3 = some (a, i, z) → H1.next ≤ a := by
        intro a i z e
        rcases hfr3 a ⟨_, _, _, _, _, by rw [e]⟩ with h | h
        · exact hfr2 a h
        · exact Nat.le_trans hab2.le h
      have := hlo1.h
      exact ⟨_, _, _, rfl, hi3.set _ _ fun a i z e => (by have := hl3 a i z e; omega), fun a i z e => (by have := hl3 a i z e; omega)⟩
theorem is25 (H : DH) (p p' : Option (Nat × Nat × Nat)) (c c' : Nat) (ex ex' : Bool) (l m : List Item) (hl : It H p c ex l) (hm : It H p' c' ex' m) (hn : l.length ≤ 1000000) :
    CallWp Try.prog X4 25 [.sl p l.length c ex, .sl p' m.length c' ex'] H (fun r H' => Above H H' ∧ r = .bool (checkB l && decide (sortL l = m))) := by
  have hchk := hl.check
  cases hcb : checkB l with
  | false =>
    rw [hcb] at hchk
    refine enter rfl Try.func25 rfl Try.ntmps25 rfl ?_
    dsimp only [List.cons_append, List.nil_append, List.length_cons, List.length_nil, List.replicate_succ, List.replicate_zero, Nat.reduceAdd, Nat.reduceSub]
    repeat' (first
      | dsimp only [putD, DV.cells, DH.new_next, DH.set_next, List.length_cons, List.length_nil, Nat.reduceAdd, List.set_cons_zero, List.set_cons_succ, getD_zero, getD_succ, fieldAt_zero, fieldAt_succ, thenD, blockD, retR]
      | apply dwp_seq
      | apply dwp_region
      | apply ops_nil
      | (apply ops_plain; (· exact rfl))
      | (apply ops_on; (· exact rfl); (· exact rfl); (· (first | with_reducible assumption | with_reducible rfl | decide)))
      | (apply ops_off1; (· exact rfl); (· exact rfl); (· (first | with_reducible assumption | with_reducible rfl | decide)))
      | (apply ops_off0; (· exact rfl); (· exact rfl); (· (first | with_reducible assumption | with_reducible rfl | decide)))
      | (apply ops_offn; (· exact rfl); (· exact rfl))
      | (apply ops_split1; (· exact rfl); (· exact rfl); all_goals intro hb)
      | (apply ops_split0; (· exact rfl); (· exact rfl); all_goals intro hb)
      | (apply op_call; (· exact rfl); (· exact rfl); (· exact rfl); refine call_table (g := gCheck) rfl hchk ?_)
      | (apply op_pick_t; (· exact rfl); (· exact rfl); (· (first | with_reducible assumption | with_reducible rfl | decide)); (· exact rfl))
      | (apply op_pick_f; (· exact rfl); (· exact rfl); (· (first | with_reducible assumption | with_reducible rfl | decide)); (· exact rfl))
      | (apply op_load_at; (· exact rfl); (· exact rfl); (· repeat (first | with_reducible assumption | (with_reducible apply obj_here; with_reducible rfl) | with_reducible apply obj_set | (with_reducible apply obj_skip_lo; (· ((repeat (first | with_reducible assumption | with_reducible apply Lo.self | with_reducible apply Lo.new | with_reducible apply Lo.set | with_reducible apply Lo.self1 | with_reducible apply Lo.self2)); done))) | (with_reducible apply obj_past; (· ((first | with_reducible assumption | with_reducible apply ne_add1 | with_reducible apply ne_add1' | with_reducible apply ne_add2 | with_reducible apply ne_add2' | with_reducible apply ne_add12 | with_reducible apply ne_add21 | (with_reducible apply Lo.ne; (repeat (first | with_reducible assumption | with_reducible apply Lo.self | with_reducible apply Lo.new | with_reducible apply Lo.set | with_reducible apply Lo.self1 | with_reducible apply Lo.self2)); done) | (with_reducible apply Lo.ne1; (repeat (first | with_reducible assumption | with_reducible apply Lo.self | with_reducible apply Lo.new | with_reducible apply Lo.set | with_reducible apply Lo.self1 | with_reducible apply Lo.self2)); done) | (with_reducible apply Lo.ne'; (repeat (first | with_reducible assumption | with_reducible apply Lo.self | with_reducible apply Lo.new | with_reducible apply Lo.set | with_reducible apply Lo.self1 | with_reducible apply Lo.self2)); done) | (with_reducible apply Lo.ne1'; (repeat (first | with_reducible assumption | with_reducible apply Lo.self | with_reducible apply Lo.new | with_reducible apply Lo.set | with_reducible apply Lo.self1 | with_reducible apply Lo.self2)); done)); done))))); (· exact rfl); (· exact rfl))
      | (apply op_store_at; (· exact rfl); (· exact rfl); (· exact rfl); (· repeat (first | with_reducible assumption | (with_reducible apply obj_here; with_reducible rfl) | with_reducible apply obj_set | (with_reducible apply obj_skip_lo; (· ((repeat (first | with_reducible assumption | with_reducible apply Lo.self | with_reducible apply Lo.new | with_reducible apply Lo.set | with_reducible apply Lo.self1 | with_reducible apply Lo.self2)); done))) | (with_reducible apply obj_past; (· ((first | with_reducible assumption | with_reducible apply ne_add1 | with_reducible apply ne_add1' | with_reducible apply ne_add2 | with_reducible apply ne_add2' | with_reducible apply ne_add12 | with_reducible apply ne_add21 | (with_reducible apply Lo.ne; (repeat (first | with_reducible assumption | with_reducible apply Lo.self | with_reducible apply Lo.new | with_reducible apply Lo.set | with_reducible apply Lo.self1 | with_reducible apply Lo.self2)); done) | (with_reducible apply Lo.ne1; (repeat (first | with_reducible assumption | with_reducible apply Lo.self | with_reducible apply Lo.new | with_reducible apply Lo.set | with_reducible apply Lo.self1 | with_reducible apply Lo.self2)); done) | (with_reducible apply Lo.ne'; (repeat (first | with_reducible assumption | with_reducible apply Lo.self | with_reducible apply Lo.new | with_reducible apply Lo.set | with_reducible apply Lo.self1 | with_reducible apply Lo.self2)); done) | (with_reducible apply Lo.ne1'; (repeat (first | with_reducible assumption | with_reducible apply Lo.self | with_reducible apply Lo.new | with_reducible apply Lo.set | with_reducible apply Lo.self1 | with_reducible apply Lo.self2)); done)); done))))); (· exact rfl); (· exact rfl); (· exact rfl))
      | (apply op_at; (· exact opD_eqb rfl rfl rfl rfl))
      | (apply op_at; (· exact opD_neqb rfl rfl rfl rfl))
      | (apply op_at; (· exact rfl))
      | (apply dwp_cond_t; (· exact rfl); (· (first | with_reducible assumption | with_reducible rfl | decide)))
      | (apply dwp_cond_f; (· exact rfl); (· (first | with_reducible assumption | with_reducible rfl | decide)))
      | (refine dwp_cond rfl ?_ ?_ <;> intro hb)
      | apply dwp_block
      | apply dwp_skip
      | apply dwp_ret
      | apply dwp_exit
      | (refine ⟨_, rfl, ?_⟩)
      | fail)
    exact ⟨Above.refl H, rfl⟩
  | true =>
    rw [hcb] at hchk
    refine enter rfl Try.func25 rfl Try.ntmps25 rfl ?_
    dsimp only [List.cons_append, List.nil_append, List.length_cons, List.length_nil, List.replicate_succ, List.replicate_zero, Nat.reduceAdd, Nat.reduceSub]
    repeat' (first
      | dsimp only [putD, DV.cells, DH.new_next, DH.set_next, List.length_cons, List.length_nil, Nat.reduceAdd, List.set_cons_zero, List.set_cons_succ, getD_zero, getD_succ, fieldAt_zero, fieldAt_succ, thenD, blockD, retR]
      | apply dwp_seq
      | apply dwp_region
      | apply ops_nil
      | (apply ops_plain; (· exact rfl))
      | (apply ops_on; (· exact rfl); (· exact rfl); (· (first | with_reducible assumption | with_reducible rfl | decide)))
      | (apply ops_off1; (· exact rfl); (· exact rfl); (· (first | with_reducible assumption | with_reducible rfl | decide)))
      | (apply ops_off0; (· exact rfl); (· exact rfl); (· (first | with_reducible assumption | with_reducible rfl | decide)))
      | (apply ops_offn; (· exact rfl); (· exact rfl))
      | (apply ops_split1; (· exact rfl); (· exact rfl); all_goals intro hb)
      | (apply ops_split0; (· exact rfl); (· exact rfl); all_goals intro hb)
      | (apply op_call; (· exact rfl); (· exact rfl); (· exact rfl); refine call_table (g := gCheck) rfl hchk ?_)
      | (apply op_call; (· exact rfl); (· exact rfl); (· exact rfl); refine (sorted22 _ p c ex l hl hn).mono ?_; rintro r1 H1 ⟨hab1, ⟨p2, c2, e2, heq, hi2, hf2⟩⟩; subst heq; have hsm := hi2.same (hm.mono hab1))
      | (apply op_call; (· exact rfl); (· exact rfl); (· exact rfl); refine call_table (g := gSame) rfl hsm ?_)
      | (apply op_pick_t; (· exact rfl); (· exact rfl); (· (first | with_reducible assumption | with_reducible rfl | decide)); (· exact rfl))
      | (apply op_pick_f; (· exact rfl); (· exact rfl); (· (first | with_reducible assumption | with_reducible rfl | decide)); (· exact rfl))
      | (apply op_load_at; (· exact rfl); (· exact rfl); (· repeat (first | with_reducible assumption | (with_reducible apply obj_here; with_reducible rfl) | with_reducible apply obj_set | (with_reducible apply obj_skip_lo; (· ((repeat (first | with_reducible assumption | with_reducible apply Lo.self | with_reducible apply Lo.new | with_reducible apply Lo.set | with_reducible apply Lo.self1 | with_reducible apply Lo.self2)); done))) | (with_reducible apply obj_past; (· ((first | with_reducible assumption | with_reducible apply ne_add1 | with_reducible apply ne_add1' | with_reducible apply ne_add2 | with_reducible apply ne_add2' | with_reducible apply ne_add12 | with_reducible apply ne_add21 | (with_reducible apply Lo.ne; (repeat (first | with_reducible assumption | with_reducible apply Lo.self | with_reducible apply Lo.new | with_reducible apply Lo.set | with_reducible apply Lo.self1 | with_reducible apply Lo.self2)); done) | (with_reducible apply Lo.ne1; (repeat (first | with_reducible assumption | with_reducible apply Lo.self | with_reducible apply Lo.new | with_reducible apply Lo.set | with_reducible apply Lo.self1 | with_reducible apply Lo.self2)); done) | (with_reducible apply Lo.ne'; (repeat (first | with_reducible assumption | with_reducible apply Lo.self | with_reducible apply Lo.new | with_reducible apply Lo.set | with_reducible apply Lo.self1 | with_reducible apply Lo.self2)); done) | (with_reducible apply Lo.ne1'; (repeat (first | with_reducible assumption | with_reducible apply Lo.self | with_reducible apply Lo.new | with_reducible apply Lo.set | with_reducible apply Lo.self1 | with_reducible apply Lo.self2)); done)); done))))); (· exact rfl); (· exact rfl))
      | (apply op_store_at; (· exact rfl); (· exact rfl); (· exact rfl); (· repeat (first | with_reducible assumption | (with_reducible apply obj_here; with_reducible rfl) | with_reducible apply obj_set | (with_reducible apply obj_skip_lo; (· ((repeat (first | with_reducible assumption | with_reducible apply Lo.self | with_reducible apply Lo.new | with_reducible apply Lo.set | with_reducible apply Lo.self1 | with_reducible apply Lo.self2)); done))) | (with_reducible apply obj_past; (· ((first | with_reducible assumption | with_reducible apply ne_add1 | with_reducible apply ne_add1' | with_reducible apply ne_add2 | with_reducible apply ne_add2' | with_reducible apply ne_add12 | with_reducible apply ne_add21 | (with_reducible apply Lo.ne; (repeat (first | with_reducible assumption | with_reducible apply Lo.self | with_reducible apply Lo.new | with_reducible apply Lo.set | with_reducible apply Lo.self1 | with_reducible apply Lo.self2)); done) | (with_reducible apply Lo.ne1; (repeat (first | with_reducible assumption | with_reducible apply Lo.self | with_reducible apply Lo.new | with_reducible apply Lo.set | with_reducible apply Lo.self1 | with_reducible apply Lo.self2)); done) | (with_reducible apply Lo.ne'; (repeat (first | with_reducible assumption | with_reducible apply Lo.self | with_reducible apply Lo.new | with_reducible apply Lo.set | with_reducible apply Lo.self1 | with_reducible apply Lo.self2)); done) | (with_reducible apply Lo.ne1'; (repeat (first | with_reducible assumption | with_reducible apply Lo.self | with_reducible apply Lo.new | with_reducible apply Lo.set | with_reducible apply Lo.self1 | with_reducible apply Lo.self2)); done)); done))))); (· exact rfl); (· exact rfl); (· exact rfl))
      | (apply op_at; (· exact opD_eqb rfl rfl rfl rfl))
      | (apply op_at; (· exact opD_neqb rfl rfl rfl rfl))
      | (apply op_at; (· exact rfl))
      | (apply dwp_cond_t; (· exact rfl); (· (first | with_reducible assumption | with_reducible rfl | decide)))
      | (apply dwp_cond_f; (· exact rfl); (· (first | with_reducible assumption | with_reducible rfl | decide)))
      | (refine dwp_cond rfl ?_ ?_ <;> intro hb)
      | apply dwp_block
      | apply dwp_skip
      | apply dwp_ret
      | apply dwp_exit
      | (refine ⟨_, rfl, ?_⟩)
      | fail)
    exact ⟨hab1, rfl⟩
end Go.Det.Q

/- Heaps, plainly: what is taken up or down keeps the order, and the same things. -/
namespace Go.Det.Q
open Go Go.Det Go.Proofs
set_option maxHeartbeats 1000000
set_option linter.unusedVariables false
set_option linter.unusedSimpArgs false
open List
instance : Inhabited Item := ⟨⟨0, 0, 0, 0, 0, 0⟩⟩
def g (l : List Item) (i : Nat) : Item := l.getD i default
theorem g_at {l : List Item} {i : Nat} (h : i < l.length) : l[i]? = some (g l i) := by simp [g, List.getD, List.getElem?_eq_getElem h]
theorem g_of {l : List Item} {i : Nat} {x : Item} (h : l[i]? = some x) : g l i = x := by simp [g, List.getD, h]
theorem g_set {l : List Item} {i j : Nat} {x : Item} (h : i < l.length) : g (l.set i x) j = if i = j then x else g l j := by
  simp only [g, List.getD, List.getElem?_set]
  split
  · rename_i e; subst e; simp [h]
  · rfl
/-- A thing does not come ahead of the one above. -/
def okAt (l : List Item) (i : Nat) : Prop := ilt (g l i) (g l ((i - 1) / 2)) = false
theorem badAt_ok {l : List Item} {i : Nat} (h : i < l.length) : badAt l i = false ↔ okAt l i := by
  unfold badAt okAt
  rw [g_at h, g_at (by omega)]
def Heap (l : List Item) : Prop := ∀ i, 0 < i → i < l.length → okAt l i
theorem heapB_heap {l : List Item} : heapB l = true ↔ Heap l := by
  rw [heapB_iff]
  exact ⟨fun h i h0 hi => (badAt_ok hi).mp (h i h0 hi), fun h i h0 hi => (badAt_ok hi).mpr (h i h0 hi)⟩
theorem swapL_perm (l : List Item) (i f : Nat) : swapL l i f ~ l := by
  unfold swapL
  split
  · rename_i x y hx hy
    obtain ⟨h1, rfl⟩ := List.getElem?_eq_some_iff.mp hx
    obtain ⟨h2, rfl⟩ := List.getElem?_eq_some_iff.mp hy
    exact List.set_set_perm h1 h2
  · exact Perm.refl _
theorem upL_perm (l : List Item) (i : Nat) : upL l i ~ l := by
  induction i using Nat.strongRecOn generalizing l with
  | _ i ih =>
    unfold upL
    split
    · rename_i h
      split
      · rename_i x y hx hy
        split
        · refine (ih ((i - 1) / 2) (by omega) _).trans ?_
          have := swapL_perm l i ((i - 1) / 2)
          rw [swapL_at hx hy] at this
          exact this
        · exact Perm.refl _
      · exact Perm.refl _
    · exact Perm.refl _
theorem downF_perm : ∀ (n : Nat) (l : List Item) (i : Nat), downF n l i ~ l
  | 0, l, i => Perm.refl _
  | n + 1, l, i => by
    simp only [downF]
    split
    · exact Perm.refl _
    · exact (downF_perm n _ _).trans (swapL_perm _ _ _)
theorem downL_perm (l : List Item) (i : Nat) : downL l i ~ l := downF_perm _ _ _
theorem buildF_perm : ∀ (k : Nat) (l : List Item), buildF k l ~ l
  | 0, l => Perm.refl _
  | k + 1, l => (buildF_perm k _).trans (downL_perm _ _)
theorem buildL_perm (l : List Item) : buildL l ~ l := buildF_perm _ _
theorem set_perm {m : List Item} {i : Nat} {y : Item} (h : i < m.length) : m.set i y ~ y :: m.eraseIdx i := by
  rw [List.set_eq_take_append_cons_drop, if_pos h, List.eraseIdx_eq_take_drop_succ]
  exact perm_middle
theorem erase_perm {m : List Item} {i : Nat} {x : Item} (h : m[i]? = some x) : m ~ x :: m.eraseIdx i := by
  obtain ⟨h1, rfl⟩ := List.getElem?_eq_some_iff.mp h
  have := set_perm (m := m) (i := i) (y := m[i]) h1
  rwa [List.set_getElem_self] at this
theorem last_split {l : List Item} (h : 0 < l.length) : l = l.take (l.length - 1) ++ [g l (l.length - 1)] := by
  have h1 := List.take_append_drop (l.length - 1) l
  have h2 : l.drop (l.length - 1) = [g l (l.length - 1)] := by
    rw [List.drop_eq_getElem_cons (by omega), List.drop_eq_nil_of_le (by omega)]
    congr 1
    have := g_at (l := l) (i := l.length - 1) (by omega)
    rw [List.getElem?_eq_getElem (by omega)] at this
    simpa using this
  rw [h2] at h1
  exact h1.symm
theorem moved_perm {l : List Item} {i : Nat} (hi : i < l.length) : (l.set i (g l (l.length - 1))).take (l.length - 1) ~ l.eraseIdx i := by
  have hs := last_split (l := l) (by omega)
  generalize hm : l.take (l.length - 1) = m at hs
  generalize g l (l.length - 1) = y at hs ⊢
  have hml : m.length = l.length - 1 := by rw [← hm, List.length_take]; omega
  rw [← hml]
  by_cases h : i < m.length
  · rw [hs, List.set_append_left _ _ h, List.take_left' (by simp), List.eraseIdx_append_of_lt_length h]
    exact (set_perm h).trans (perm_append_singleton _ _).symm
  · have e : i = m.length := by omega
    subst e
    rw [hs, List.set_append_right _ _ (Nat.le_refl _), List.take_left, List.eraseIdx_append_of_length_le (Nat.le_refl _)]
    simp
theorem withoutL_perm {l : List Item} {i : Nat} (hi : i < l.length) : withoutL l i ~ l.eraseIdx i := by
  unfold withoutL
  rw [g_at (by omega)]
  simp only
  split
  · exact ((upL_perm _ _).trans (downL_perm _ _)).trans (moved_perm hi)
  · exact moved_perm hi
/-! ### order -/
theorem upL_heap : ∀ (i : Nat) (l : List Item), i < l.length → (∀ j, 0 < j → j < l.length → j ≠ i → okAt l j) → (0 < i → ∀ c, 0 < c → c < l.length → (c - 1) / 2 = i → ilt (g l c) (g l ((i - 1) / 2)) = false) → Heap (upL l i) := by
  intro i
  induction i using Nat.strongRecOn with
  | _ i ih =>
    intro l hi hok hch
    by_cases h0 : 0 < i
    · have ha : (i - 1) / 2 < l.length := by omega
      cases hlt : ilt (g l i) (g l ((i - 1) / 2)) with
      | false =>
        rw [upL_stop h0 (g_at hi) (g_at ha) hlt]
        intro j hj0 hj
        by_cases e : j = i
        · subst e; exact hlt
        · exact hok j hj0 hj e
      | true =>
        rw [upL_go h0 (g_at hi) (g_at ha) hlt]
        generalize hav : (i - 1) / 2 = a at *
        have hai : a < i := by omega
        have gs : ∀ j, g ((l.set i (g l a)).set a (g l i)) j = if j = a then g l i else if j = i then g l a else g l j := by
          intro j
          rw [g_set (by simp; exact ha), g_set hi]
          by_cases e1 : j = a
          · subst e1; simp
          · rw [if_neg (fun e => e1 e.symm), if_neg e1]
            by_cases e2 : j = i
            · subst e2; simp
            · rw [if_neg (fun e => e2 e.symm), if_neg e2]
        have hlen : ((l.set i (g l a)).set a (g l i)).length = l.length := by simp
        refine ih a hai _ (by rw [hlen]; exact ha) ?_ ?_
        · intro j hj0 hj hja
          rw [hlen] at hj
          unfold okAt
          rw [gs, gs, if_neg hja]
          by_cases e1 : j = i
          · subst e1
            rw [if_pos rfl, hav, if_pos rfl]
            exact ilt_asym hlt
          · rw [if_neg e1]
            by_cases e2 : (j - 1) / 2 = a
            · rw [if_pos e2]
              have h1 := hok j hj0 hj e1
              unfold okAt at h1
              rw [e2] at h1
              exact nlt_trans (ilt_asym hlt) h1
            · rw [if_neg e2]
              by_cases e3 : (j - 1) / 2 = i
              · rw [if_pos e3]
                exact hch h0 j hj0 hj e3
              · rw [if_neg e3]
                exact hok j hj0 hj e1
        · intro ha0 c hc0 hc hca
          rw [hlen] at hc
          have hoka := hok a ha0 ha (by omega)
          unfold okAt at hoka
          rw [gs, gs, if_neg (show (a - 1) / 2 ≠ a by omega), if_neg (show (a - 1) / 2 ≠ i by omega), if_neg (show c ≠ a by omega)]
          by_cases e1 : c = i
          · rw [if_pos e1]
            exact hoka
          · rw [if_neg e1]
            have h1 := hok c hc0 hc e1
            unfold okAt at h1
            rw [hca] at h1
            exact nlt_trans hoka h1
    · have e : i = 0 := by omega
      subst e
      rw [upL_zero]
      intro j hj0 hj
      exact hok j hj0 hj (by omega)
theorem lessAt_g {l : List Item} {a b : Nat} (ha : a < l.length) (hb : b < l.length) : lessAt l a b = ilt (g l a) (g l b) := lessAt_at (g_at ha) (g_at hb)
/-- Which of a thing and those below it comes first. -/
theorem firstL_spec {l : List Item} {k : Nat} (hk : k < l.length) : (firstL l k = k ∧ ∀ c, 0 < c → c < l.length → (c - 1) / 2 = k → ilt (g l c) (g l k) = false) ∨
    (∃ f, firstL l k = f ∧ k < f ∧ f < l.length ∧ (f - 1) / 2 = k ∧ ilt (g l f) (g l k) = true ∧ ∀ c, 0 < c → c < l.length → (c - 1) / 2 = k → ilt (g l c) (g l f) = false) := by
  have ch : ∀ c, 0 < c → (c - 1) / 2 = k → c = 2 * k + 1 ∨ c = 2 * k + 2 := by intro c h0 h; omega
  unfold firstL
  by_cases h1 : 2 * k + 1 < l.length
  · cases e1 : ilt (g l (2 * k + 1)) (g l k) with
    | true =>
      have f1 : first1 l k = 2 * k + 1 := by unfold first1; rw [lessAt_g h1 hk, e1]; rfl
      rw [f1]
      by_cases h2 : 2 * k + 2 < l.length
      · rw [lessAt_g h2 h1]
        cases e2 : ilt (g l (2 * k + 2)) (g l (2 * k + 1)) with
        | true =>
          rw [if_pos rfl]
          refine .inr ⟨_, rfl, by omega, h2, by omega, ilt_trans e2 e1, fun c h0 hc hck => ?_⟩
          rcases ch c h0 hck with rfl | rfl
          · exact ilt_asym e2
          · exact ilt_irrefl _
        | false =>
          rw [if_neg (by simp)]
          refine .inr ⟨_, rfl, by omega, h1, by omega, e1, fun c h0 hc hck => ?_⟩
          rcases ch c h0 hck with rfl | rfl
          · exact ilt_irrefl _
          · exact e2
      · rw [lessAt_out (by omega)]
        refine .inr ⟨2 * k + 1, rfl, by omega, h1, by omega, e1, fun c h0 hc hck => ?_⟩
        rcases ch c h0 hck with rfl | rfl
        · exact ilt_irrefl _
        · omega
    | false =>
      have f1 : first1 l k = k := by unfold first1; rw [lessAt_g h1 hk, e1]; rfl
      rw [f1]
      by_cases h2 : 2 * k + 2 < l.length
      · rw [lessAt_g h2 hk]
        cases e2 : ilt (g l (2 * k + 2)) (g l k) with
        | true =>
          rw [if_pos rfl]
          refine .inr ⟨_, rfl, by omega, h2, by omega, e2, fun c h0 hc hck => ?_⟩
          rcases ch c h0 hck with rfl | rfl
          · exact nlt_trans (ilt_asym e2) e1
          · exact ilt_irrefl _
        | false =>
          rw [if_neg (by simp)]
          refine .inl ⟨rfl, fun c h0 hc hck => ?_⟩
          rcases ch c h0 hck with rfl | rfl
          · exact e1
          · exact e2
      · rw [lessAt_out (by omega)]
        refine .inl ⟨rfl, fun c h0 hc hck => ?_⟩
        rcases ch c h0 hck with rfl | rfl
        · exact e1
        · omega
  · have f1 : first1 l k = k := by unfold first1; rw [lessAt_out (by omega)]; rfl
    rw [f1, lessAt_out (by omega)]
    refine .inl ⟨rfl, fun c h0 hc hck => ?_⟩
    rcases ch c h0 hck with rfl | rfl <;> omega
theorem downF_heap (m : Nat) : ∀ (f : Nat) (l : List Item) (k : Nat), k < l.length → l.length ≤ k + f → m ≤ k → (∀ j, 0 < j → j < l.length → m ≤ (j - 1) / 2 → (j - 1) / 2 ≠ k → okAt l j) →
    (0 < k → m ≤ (k - 1) / 2 → ∀ c, 0 < c → c < l.length → (c - 1) / 2 = k → ilt (g l c) (g l ((k - 1) / 2)) = false) → ∀ j, 0 < j → j < l.length → m ≤ (j - 1) / 2 → okAt (downF f l k) j
  | 0, l, k, hk, hf, _, _, _, j, _, _, _ => by omega
  | f + 1, l, k, hk, hf, hmk, hok, hch, j, hj0, hj, hjm => by
    rcases firstL_spec hk with ⟨h1, h2⟩ | ⟨c, h1, h2, h3, h4, h5, h6⟩
    · simp only [downF, h1, if_true]
      by_cases e : (j - 1) / 2 = k
      · unfold okAt; rw [e]; exact h2 j hj0 hj e
      · exact hok j hj0 hj hjm e
    · have hne : ¬ c = k := by omega
      simp only [downF, h1]
      rw [if_neg hne, swapL_at (g_at hk) (g_at h3)]
      have gs : ∀ j, g ((l.set k (g l c)).set c (g l k)) j = if j = c then g l k else if j = k then g l c else g l j := by
        intro j
        rw [g_set (by simp; exact h3), g_set hk]
        by_cases e1 : j = c
        · subst e1; simp
        · rw [if_neg (fun e => e1 e.symm), if_neg e1]
          by_cases e2 : j = k
          · subst e2; simp
          · rw [if_neg (fun e => e2 e.symm), if_neg e2]
      have hlen : ((l.set k (g l c)).set c (g l k)).length = l.length := by simp
      refine downF_heap m f _ c (by rw [hlen]; exact h3) (by rw [hlen]; omega) (by omega) ?_ ?_ j hj0 (by rw [hlen]; exact hj) hjm
      · intro j hj0 hj hjm hjc
        rw [hlen] at hj
        unfold okAt
        rw [gs, gs]
        rw [if_neg hjc]
        by_cases e1 : (j - 1) / 2 = k
        · rw [if_pos e1]
          by_cases e2 : j = c
          · rw [if_pos e2]; exact ilt_asym h5
          · rw [if_neg e2, if_neg (by omega)]
            exact h6 j hj0 hj e1
        · rw [if_neg e1]
          have hjc' : j ≠ c := fun e => by subst e; exact e1 h4
          rw [if_neg hjc']
          by_cases e2 : j = k
          · rw [if_pos e2]
            subst e2
            exact hch hj0 hjm c (by omega) h3 h4
          · rw [if_neg e2]
            exact hok j hj0 hj hjm e1
      · intro _ _ d hd0 hd hdc
        rw [hlen] at hd
        rw [gs, gs, if_neg (show d ≠ c by omega), if_neg (show d ≠ k by omega), h4, if_neg (fun e => hne e.symm), if_pos rfl]
        have := hok d hd0 hd (by omega) (by omega)
        unfold okAt at this
        rw [hdc] at this
        exact this
theorem downL_from {l : List Item} {i : Nat} (hi : i < l.length) (h : ∀ j, 0 < j → j < l.length → i + 1 ≤ (j - 1) / 2 → okAt l j) : ∀ j, 0 < j → j < l.length → i ≤ (j - 1) / 2 → okAt (downL l i) j :=
  downF_heap i l.length l i hi (by omega) (Nat.le_refl _) (fun j h0 hj hm hne => h j h0 hj (by omega)) (fun h0 hm => by omega)
theorem buildF_heap : ∀ (k : Nat) (l : List Item), k ≤ l.length → (∀ j, 0 < j → j < l.length → k ≤ (j - 1) / 2 → okAt l j) → Heap (buildF k l)
  | 0, l, _, h => fun j h0 hj => h j h0 hj (Nat.zero_le _)
  | k + 1, l, hk, h => by
    refine buildF_heap k (downL l k) (by rw [downL_length]; omega) fun j h0 hj hm => ?_
    rw [downL_length] at hj
    exact downL_from (by omega) h j h0 hj hm
theorem buildL_heap (l : List Item) : Heap (buildL l) := buildF_heap _ l (by omega) fun j h0 hj hm => by omega
theorem pushL_heap {l : List Item} {x : Item} (h : Heap l) : Heap (upL (l ++ [x]) l.length) := by
  have gl : ∀ j, j < l.length → g (l ++ [x]) j = g l j := fun j hj => g_of (by rw [List.getElem?_append_left hj]; exact g_at hj)
  refine upL_heap l.length _ (by simp) (fun j h0 hj hne => ?_) (fun h0 c hc0 hc hcl => ?_)
  · have hj' : j < l.length := by simp at hj; omega
    unfold okAt
    rw [gl j hj', gl _ (by omega)]
    exact h j h0 hj'
  · simp at hc; omega
theorem withoutL_heap {l : List Item} {i : Nat} (h : Heap l) (hi : i < l.length) : Heap (withoutL l i) := by
  unfold withoutL
  rw [g_at (by omega)]
  simp only
  generalize hy : g l (l.length - 1) = y
  have gm : ∀ j, j < l.length - 1 → g ((l.set i y).take (l.length - 1)) j = if j = i then y else g l j := by
    intro j hj
    have : ((l.set i y).take (l.length - 1))[j]? = some (if j = i then y else g l j) := by
      rw [List.getElem?_take, if_pos hj, List.getElem?_set]
      by_cases e : i = j
      · subst e; simp [hi]
      · rw [if_neg e, if_neg (fun e' => e e'.symm)]
        exact g_at (by omega)
    exact g_of this
  have hlen : ((l.set i y).take (l.length - 1)).length = l.length - 1 := by simp
  generalize hm : (l.set i y).take (l.length - 1) = m at *
  split
  · rename_i hil
    -- all but i and those below it
    have hother : ∀ j, 0 < j → j < m.length → j ≠ i → (j - 1) / 2 ≠ i → okAt m j := by
      intro j h0 hj h1 h2
      rw [hlen] at hj
      unfold okAt
      rw [gm j hj, gm _ (by omega), if_neg h1, if_neg h2]
      exact h j h0 (by omega)
    by_cases hup : 0 < i ∧ ilt y (g l ((i - 1) / 2)) = true
    · -- it goes up
      obtain ⟨h0, hlt⟩ := hup
      have hpi := h i h0 hi
      unfold okAt at hpi
      have hch : ∀ c, 0 < c → c < m.length → (c - 1) / 2 = i → ilt (g m c) (g l ((i - 1) / 2)) = false := by
        intro c hc0 hc hci
        rw [hlen] at hc
        rw [gm c hc, if_neg (by omega)]
        have := h c hc0 (by omega)
        unfold okAt at this
        rw [hci] at this
        exact nlt_trans hpi this
      have hchy : ∀ c, 0 < c → c < m.length → (c - 1) / 2 = i → ilt (g m c) y = false := fun c h1 h2 h3 => nlt_trans (ilt_asym hlt) (hch c h1 h2 h3)
      have hdown : downL m i = m := by
        have hil' : i < m.length := by omega
        unfold downL
        obtain ⟨n, hn⟩ : ∃ n, m.length = n + 1 := ⟨m.length - 1, by omega⟩
        rw [hn]
        rcases firstL_spec hil' with ⟨h1, _⟩ | ⟨c, h1, h2, h3, h4, h5, h6⟩
        · simp only [downF, h1, if_true]
        · exfalso
          have e := hchy c (by omega) h3 h4
          have e2 : g m i = y := by rw [gm i (by omega), if_pos rfl]
          rw [e2, e] at h5
          cases h5
      rw [hdown]
      refine upL_heap i m (by omega) (fun j hj0 hj hji => ?_) (fun _ c hc0 hc hci => ?_)
      · by_cases e : (j - 1) / 2 = i
        · unfold okAt
          rw [e, gm i (by omega), if_pos rfl]
          exact hchy j hj0 hj e
        · exact hother j hj0 hj hji e
      · rw [gm ((i - 1) / 2) (by omega), if_neg (by omega)]
        exact hch c hc0 hc hci
    · -- it goes down
      have hoki : 0 < i → okAt m i := by
        intro h0
        unfold okAt
        rw [gm i (by omega), if_pos rfl, gm _ (by omega), if_neg (by omega)]
        cases e : ilt y (g l ((i - 1) / 2))
        · rfl
        · exact absurd ⟨h0, e⟩ hup
      have hd : Heap (downL m i) := by
        intro j hj0 hj
        rw [downL_length] at hj
        refine downF_heap 0 m.length m i (by omega) (by omega) (Nat.zero_le _) (fun j h0 hj _ hne => ?_) (fun h0 _ c hc0 hc hci => ?_) j hj0 hj (Nat.zero_le _)
        · by_cases e : j = i
          · subst e; exact hoki h0
          · exact hother j h0 hj e hne
        · rw [hlen] at hc
          rw [gm c hc, if_neg (by omega), gm _ (by omega), if_neg (by omega)]
          have h1 := h i h0 hi
          have h2 := h c hc0 (by omega)
          unfold okAt at h1 h2
          rw [hci] at h2
          exact nlt_trans h1 h2
      refine upL_heap i _ (by rw [downL_length]; omega) (fun j h0 hj _ => hd j h0 hj) (fun h0 c hc0 hc hci => ?_)
      have h1 := hd c hc0 hc
      have h2 := hd i h0 (by rw [downL_length]; omega)
      unfold okAt at h1 h2
      rw [hci] at h1
      exact nlt_trans h2 h1
  · rename_i hil
    intro j h0 hj
    rw [hlen] at hj
    unfold okAt
    rw [gm j hj, gm _ (by omega), if_neg (by omega), if_neg (by omega)]
    exact h j h0 (by omega)
/-- The first of a heap comes first. -/
theorem heap_first {l : List Item} (h : Heap l) : ∀ i, i < l.length → ilt (g l i) (g l 0) = false := by
  intro i
  induction i using Nat.strongRecOn with
  | _ i ih =>
    intro hi
    by_cases h0 : i = 0
    · subst h0; exact ilt_irrefl _
    · have h1 := ih ((i - 1) / 2) (by omega) (by omega)
      have h2 := h i (by omega) hi
      unfold okAt at h2
      exact nlt_trans h1 h2
/-! ### sorted -/
def Sorted (l : List Item) : Prop := l.Pairwise fun x y => ilt y x = false
theorem putL_perm (l : List Item) (x : Item) : putL l x ~ x :: l := by
  unfold putL
  have := List.takeWhile_append_dropWhile (p := fun y => !ilt x y) (l := l)
  conv => rhs; rw [← this]
  exact perm_middle
theorem foldl_putL_perm : ∀ (l m : List Item), l.foldl putL m ~ l ++ m
  | [], m => Perm.refl _
  | x :: l, m => by
    rw [List.foldl_cons]
    refine (foldl_putL_perm l _).trans ?_
    refine ((putL_perm m x).append_left l).trans ?_
    exact perm_middle
theorem sortL_perm (l : List Item) : sortL l ~ l := by have := foldl_putL_perm l []; rwa [List.append_nil] at this
theorem putL_sorted {l : List Item} (h : Sorted l) (x : Item) : Sorted (putL l x) := by
  induction l with
  | nil => unfold putL Sorted; simp
  | cons y l ih =>
    unfold Sorted at h
    rw [List.pairwise_cons] at h
    unfold putL
    cases hxy : ilt x y with
    | true =>
      rw [List.takeWhile_cons, List.dropWhile_cons]
      simp only [hxy, Bool.not_true, Bool.false_eq_true, if_false, List.nil_append]
      unfold Sorted
      rw [List.pairwise_cons, List.pairwise_cons]
      refine ⟨fun z hz => ?_, h⟩
      rcases List.mem_cons.mp hz with rfl | hz
      · exact ilt_asym hxy
      · exact nlt_trans (ilt_asym hxy) (h.1 z hz)
    | false =>
      rw [List.takeWhile_cons, List.dropWhile_cons]
      simp only [hxy, Bool.not_false, if_true, List.cons_append]
      have ih' := ih h.2
      unfold putL at ih'
      unfold Sorted at ih' ⊢
      rw [List.pairwise_cons]
      refine ⟨fun z hz => ?_, ih'⟩
      have hz' : z ∈ x :: l := (putL_perm l x).mem_iff.mp hz
      rcases List.mem_cons.mp hz' with rfl | hz'
      · exact hxy
      · exact h.1 z hz'
theorem foldl_putL_sorted : ∀ (l m : List Item), Sorted m → Sorted (l.foldl putL m)
  | [], m, h => h
  | x :: l, m, h => by rw [List.foldl_cons]; exact foldl_putL_sorted l _ (putL_sorted h x)
theorem sortL_sorted (l : List Item) : Sorted (sortL l) := foldl_putL_sorted l [] .nil
theorem sorted_eq {l m : List Item} (h : Sorted l) (k : Sorted m) (hp : l ~ m) : l = m := Perm.eq_of_pairwise (le := fun x y => ilt y x = false) (fun a b _ _ h1 h2 => ilt_total h2 h1) h k hp
theorem sortL_congr {l m : List Item} (h : l ~ m) : sortL l = sortL m := sorted_eq (sortL_sorted l) (sortL_sorted m) (((sortL_perm l).trans h).trans (sortL_perm m).symm)
theorem sortL_of_perm {l m : List Item} (hp : l ~ m) (h : Sorted m) : sortL l = m := sorted_eq (sortL_sorted l) h ((sortL_perm l).trans hp)
/-- The first of a heap is the first, sorted. -/
theorem sortL_first {l : List Item} (h : Heap l) {x : Item} (hx : l[0]? = some x) : ∃ t, sortL l = x :: t ∧ withoutL l 0 ~ t ∧ Sorted t := by
  have h0 := (List.getElem?_eq_some_iff.mp hx).1
  have hxg := g_of hx
  cases hs : sortL l with
  | nil => have := sortL_length l; rw [hs] at this; simp at this; omega
  | cons y t =>
    have hsrt := sortL_sorted l
    rw [hs] at hsrt
    unfold Sorted at hsrt
    rw [List.pairwise_cons] at hsrt
    have hp := sortL_perm l
    rw [hs] at hp
    have e : y = x := by
      have hy : y ∈ l := hp.mem_iff.mp (by simp)
      have hx' : x ∈ y :: t := hp.mem_iff.mpr (List.mem_of_getElem? hx)
      obtain ⟨i, hi, rfl⟩ := List.getElem_of_mem hy
      have h1 := heap_first h i hi
      rw [hxg, g_of (List.getElem?_eq_getElem hi)] at h1
      rcases List.mem_cons.mp hx' with e | e
      · exact e.symm
      · exact ilt_total h1 (hsrt.1 x e)
    subst e
    refine ⟨t, rfl, (withoutL_perm h0).trans ?_, hsrt.2⟩
    exact (Perm.cons_inv (hp.trans (erase_perm hx))).symm
/-! ### what has a number -/
theorem takeF_spec (l : List Item) (q : Int) : ∀ k, k ≤ l.length → (takeF l q k < 0 ∧ ∀ i, i < k → ((g l i).s == q) = false) ∨
    (∃ a : Nat, takeF l q k = (a : Int) ∧ a < k ∧ (g l a).s = q ∧ ∀ i, i < k → (g l i).s = q → ilt (g l i) (g l a) = false)
  | 0, _ => .inl ⟨by simp [takeF], fun i h => by omega⟩
  | k + 1, hk => by
    have ih := takeF_spec l q k (by omega)
    have hx := g_at (l := l) (i := k) (by omega)
    cases hq : (g l k).s == q with
    | false =>
      have e : takeF l q (k + 1) = takeF l q k := by simp only [takeF, hx, hq, Bool.false_and]; rfl
      rw [e]
      have hqn : (g l k).s ≠ q := by simpa using hq
      rcases ih with ⟨h1, h2⟩ | ⟨a, h1, h2, h3, h4⟩
      · exact .inl ⟨h1, fun i hi => by
          by_cases ei : i = k
          · subst ei; exact hq
          · exact h2 i (by omega)⟩
      · exact .inr ⟨a, h1, by omega, h3, fun i hi hiq => by
          by_cases ei : i = k
          · subst ei; exact absurd hiq hqn
          · exact h4 i (by omega) hiq⟩
    | true =>
      have hqe : (g l k).s = q := by simpa using hq
      rcases ih with ⟨h1, h2⟩ | ⟨a, h1, h2, h3, h4⟩
      · have e : takeF l q (k + 1) = (k : Int) := by simp only [takeF, hx, hq, decide_eq_true h1]; rfl
        refine .inr ⟨k, e, by omega, hqe, fun i hi hiq => ?_⟩
        by_cases ei : i = k
        · subst ei; exact ilt_irrefl _
        · have := h2 i (by omega); rw [hiq] at this; simp at this
      · have hnn : ¬ takeF l q k < 0 := by omega
        have e : takeF l q (k + 1) = if ilt (g l k) (g l a) then (k : Int) else (a : Int) := by
          simp only [takeF, hx, hq, decide_eq_false hnn, h1, Int.toNat_natCast, g_at (l := l) (i := a) (by omega)]
          rfl
        cases hlt : ilt (g l k) (g l a) with
        | true =>
          rw [hlt, if_pos rfl] at e
          refine .inr ⟨k, e, by omega, hqe, fun i hi hiq => ?_⟩
          by_cases ei : i = k
          · subst ei; exact ilt_irrefl _
          · exact nlt_trans (ilt_asym hlt) (h4 i (by omega) hiq)
        | false =>
          rw [hlt, if_neg (by simp)] at e
          refine .inr ⟨a, e, by omega, h3, fun i hi hiq => ?_⟩
          by_cases ei : i = k
          · subst ei; exact hlt
          · exact h4 i (by omega) hiq
theorem take_none {l : List Item} {q : Int} (h : takeF l q l.length < 0) : (sortL l).findIdx? (fun x => x.s == q) = none := by
  rw [List.findIdx?_eq_none_iff]
  intro x hx
  have hx' : x ∈ l := (sortL_perm l).mem_iff.mp hx
  obtain ⟨i, hi, rfl⟩ := List.getElem_of_mem hx'
  rcases takeF_spec l q l.length (Nat.le_refl _) with ⟨_, h2⟩ | ⟨a, h1, _⟩
  · have := h2 i hi
    rw [g_of (List.getElem?_eq_getElem hi)] at this
    exact this
  · omega
theorem take_some {l : List Item} {q : Int} {a : Nat} {x : Item} (h : takeF l q l.length = (a : Int)) (hx : l[a]? = some x) : ∃ k, (sortL l).findIdx? (fun x => x.s == q) = some k ∧ (sortL l)[k]? = some x ∧ sortL (withoutL l a) = (sortL l).eraseIdx k ∧ x.s = q := by
  have ha := (List.getElem?_eq_some_iff.mp hx).1
  rcases takeF_spec l q l.length (Nat.le_refl _) with ⟨h1, _⟩ | ⟨a', h1, h2, h3, h4⟩
  · omega
  · rw [h] at h1
    have e : a' = a := by omega
    subst e
    rw [g_of hx] at h3 h4
    cases hf : (sortL l).findIdx? (fun x => x.s == q) with
    | none =>
      rw [List.findIdx?_eq_none_iff] at hf
      have := hf x ((sortL_perm l).mem_iff.mpr (List.mem_of_getElem? hx))
      rw [h3] at this
      simp at this
    | some k =>
      obtain ⟨hk, hk1, hk2⟩ := List.findIdx?_eq_some_iff_getElem.mp hf
      have hks : ((sortL l)[k]).s = q := by simpa using hk1
      have hkx : (sortL l)[k] = x := by
        -- neither comes ahead
        have m1 : (sortL l)[k] ∈ l := (sortL_perm l).mem_iff.mp (List.getElem_mem hk)
        obtain ⟨i, hi, hie⟩ := List.getElem_of_mem m1
        have c1 : ilt ((sortL l)[k]) x = false := by
          have := h4 i hi (by rw [g_of (List.getElem?_eq_getElem hi), hie]; exact hks)
          rw [g_of (List.getElem?_eq_getElem hi), hie] at this
          exact this
        obtain ⟨j, hj, hje⟩ := List.getElem_of_mem ((sortL_perm l).mem_iff.mpr (List.mem_of_getElem? hx))
        have c2 : ilt x ((sortL l)[k]) = false := by
          rcases Nat.lt_trichotomy j k with h' | h' | h'
          · have := hk2 j h'
            rw [hje, h3] at this
            simp at this
          · subst h'; rw [hje]; exact ilt_irrefl _
          · have := List.pairwise_iff_getElem.mp (sortL_sorted l) k j hk hj h'
            rw [hje] at this
            exact this
        exact ilt_total c1 c2
      have hkx' : (sortL l)[k]? = some x := by rw [List.getElem?_eq_getElem hk, hkx]
      refine ⟨k, rfl, hkx', ?_, h3⟩
      refine sortL_of_perm ((withoutL_perm ha).trans ?_) ?_
      · exact Perm.cons_inv ((erase_perm hx).symm.trans ((sortL_perm l).symm.trans (erase_perm hkx')))
      · exact (sortL_sorted l).sublist (List.eraseIdx_sublist _ _)
end Go.Det.Q

/- What pushes, pops and takes come to, in one form. -/
namespace Go.Det.Q
open Go Go.Det Go.Proofs
set_option maxRecDepth 4000
set_option maxHeartbeats 4000000
set_option linter.unusedVariables false
set_option linter.unusedSimpArgs false
def zeroI : Item := ⟨0, 0, 0, 0, 0, 0⟩
theorem nilF (A H : DH) : ItsF A H (.sl none 0 0 true) [] := ⟨none, 0, true, rfl, .nil0 H, fun _ _ _ h => (by cases h)⟩
def pushE (l : List Item) : Int := if checkB l = true then (if l.length = 4096 then 7 else 0) else 1
def pushV (l : List Item) (x : Item) : List Item := if pushE l = 0 then upL (l ++ [x]) l.length else []
def rpushV (l : List Item) (x : Item) : List Item := if pushE l = 0 then putL (sortL l) x else []
def popE (l : List Item) : Int := if checkB l = true then (if l = [] then 8 else 0) else 1
def popX (l : List Item) : Item := if popE l = 0 then g l 0 else zeroI
def popV (l : List Item) : List Item := if popE l = 0 then withoutL l 0 else []
def rpopV (l : List Item) : List Item := if popE l = 0 then (sortL l).drop 1 else []
def takeE (l : List Item) (q : Int) : Int := if checkB l = true then (if takeF l q l.length < 0 then 8 else 0) else 1
def takeX (l : List Item) (q : Int) : Item := if takeE l q = 0 then g l (takeF l q l.length).toNat else zeroI
def takeV (l : List Item) (q : Int) : List Item := if takeE l q = 0 then withoutL l (takeF l q l.length).toNat else []
def rtakeV (l : List Item) (q : Int) : List Item := if takeE l q = 0 then sortL (withoutL l (takeF l q l.length).toNat) else []
theorem pushE_bad {l : List Item} (h : checkB l = false) : pushE l = 1 := by simp [pushE, h]
theorem pushE_full {l : List Item} (h : checkB l = true) (k : l.length = 4096) : pushE l = 7 := by simp [pushE, h, k]
theorem pushE_ok {l : List Item} (h : checkB l = true) (k : l.length ≠ 4096) : pushE l = 0 := by simp [pushE, h, k]
theorem popE_bad {l : List Item} (h : checkB l = false) : popE l = 1 := by simp [popE, h]
theorem popE_none {l : List Item} (h : checkB l = true) (k : l = []) : popE l = 8 := by unfold popE; rw [if_pos h, if_pos k]
theorem popE_ok {l : List Item} (h : checkB l = true) (k : l ≠ []) : popE l = 0 := by simp [popE, h, k]
theorem takeE_bad {l : List Item} {q : Int} (h : checkB l = false) : takeE l q = 1 := by simp [takeE, h]
theorem takeE_none {l : List Item} {q : Int} (h : checkB l = true) (k : takeF l q l.length < 0) : takeE l q = 8 := by simp [takeE, h, k]
theorem takeE_ok {l : List Item} {q : Int} (h : checkB l = true) (k : ¬ takeF l q l.length < 0) : takeE l q = 0 := by simp [takeE, h, k]
theorem checkB_heap {l : List Item} : checkB l = true ↔ Heap l ∧ l.length ≤ 4096 := by
  unfold checkB
  rw [Bool.and_eq_true, heapB_heap, decide_eq_true_eq]
section
variable {H : DH} {s : DV} {l : List Item}
theorem push_c (x : Item) (h : Its H s l) (hn : l.length ≤ 1000000) : CallWp Try.prog X4 16 [s, .agg x.cells] H (fun r H' => Above H H' ∧ ∃ s', r = .tuple [s', .int .i64 (pushE l)] ∧ ItsF H H' s' (pushV l x)) := by
  obtain ⟨p, c, ex, rfl, hl⟩ := h
  refine (push16 H p c ex l x hl hn).mono ?_
  rintro r H' ⟨hab, ⟨h1, rfl⟩ | ⟨h1, h2, rfl⟩ | ⟨h1, h2, s', rfl, h3⟩⟩
  · exact ⟨hab, _, by rw [pushE_bad h1], by unfold pushV; rw [pushE_bad h1]; exact nilF _ _⟩
  · exact ⟨hab, _, by rw [pushE_full h1 h2], by unfold pushV; rw [pushE_full h1 h2]; exact nilF _ _⟩
  · exact ⟨hab, s', by rw [pushE_ok h1 h2], by unfold pushV; rw [pushE_ok h1 h2]; exact h3⟩
theorem rpush_c (x : Item) (h : Its H s l) (hn : l.length ≤ 1000000) : CallWp Try.prog X4 26 [s, .agg x.cells] H (fun r H' => Above H H' ∧ ∃ s', r = .tuple [s', .int .i64 (pushE l)] ∧ ItsF H H' s' (rpushV l x)) := by
  obtain ⟨p, c, ex, rfl, hl⟩ := h
  refine (rpush26 H p c ex l x hl hn).mono ?_
  rintro r H' ⟨hab, ⟨h1, rfl⟩ | ⟨h1, h2, rfl⟩ | ⟨h1, h2, s', rfl, h3⟩⟩
  · exact ⟨hab, _, by rw [pushE_bad h1], by unfold rpushV; rw [pushE_bad h1]; exact nilF _ _⟩
  · exact ⟨hab, _, by rw [pushE_full h1 h2], by unfold rpushV; rw [pushE_full h1 h2]; exact nilF _ _⟩
  · exact ⟨hab, s', by rw [pushE_ok h1 h2], by unfold rpushV; rw [pushE_ok h1 h2]; exact h3⟩
theorem pop_c (h : Its H s l) (hn : l.length ≤ 1000000) : CallWp Try.prog X4 19 [s] H (fun r H' => Above H H' ∧ ∃ s', r = .tuple [.agg (popX l).cells, s', .int .i64 (popE l)] ∧ ItsF H H' s' (popV l)) := by
  obtain ⟨p, c, ex, rfl, hl⟩ := h
  refine (pop19 H p c ex l hl hn).mono ?_
  rintro r H' ⟨hab, ⟨h1, rfl⟩ | ⟨h1, h2, rfl⟩ | ⟨h1, x, s', h2, rfl, h3⟩⟩
  · exact ⟨hab, _, by unfold popX; rw [popE_bad h1]; rfl, by unfold popV; rw [popE_bad h1]; exact nilF _ _⟩
  · exact ⟨hab, _, by unfold popX; rw [popE_none h1 h2]; rfl, by unfold popV; rw [popE_none h1 h2]; exact nilF _ _⟩
  · have hne : l ≠ [] := fun e => by subst e; simp at h2
    exact ⟨hab, s', by unfold popX; rw [popE_ok h1 hne, if_pos rfl, g_of h2], by unfold popV; rw [popE_ok h1 hne]; exact h3⟩
theorem rpop_c (h : Its H s l) (hn : l.length ≤ 1000000) : CallWp Try.prog X4 27 [s] H (fun r H' => Above H H' ∧ ∃ s', r = .tuple [.agg (popX l).cells, s', .int .i64 (popE l)] ∧ ItsF H H' s' (rpopV l)) := by
  obtain ⟨p, c, ex, rfl, hl⟩ := h
  refine (rpop27 H p c ex l hl hn).mono ?_
  rintro r H' ⟨hab, ⟨h1, rfl⟩ | ⟨h1, h2, rfl⟩ | ⟨h1, x, s', h2, rfl, h3⟩⟩
  · exact ⟨hab, _, by unfold popX; rw [popE_bad h1]; rfl, by unfold rpopV; rw [popE_bad h1]; exact nilF _ _⟩
  · exact ⟨hab, _, by unfold popX; rw [popE_none h1 h2]; rfl, by unfold rpopV; rw [popE_none h1 h2]; exact nilF _ _⟩
  · have hne : l ≠ [] := fun e => by subst e; simp [sortL] at h2
    have h0 : 0 < l.length := List.length_pos_iff.mpr hne
    obtain ⟨t, ht, _⟩ := sortL_first (checkB_heap.mp h1).1 (g_at h0)
    rw [ht] at h2
    have hx : x = g l 0 := by simpa using h2.symm
    exact ⟨hab, s', by unfold popX; rw [popE_ok h1 hne, if_pos rfl, hx], by unfold rpopV; rw [popE_ok h1 hne]; exact h3⟩
theorem take_c (q : Int) (h : Its H s l) (hn : l.length ≤ 1000000) : CallWp Try.prog X4 28 [s, .int .u64 q] H (fun r H' => Above H H' ∧ ∃ s', r = .tuple [.agg (takeX l q).cells, s', .int .i64 (takeE l q)] ∧ ItsF H H' s' (takeV l q)) := by
  obtain ⟨p, c, ex, rfl, hl⟩ := h
  refine (take28 H p c ex l q hl hn).mono ?_
  rintro r H' ⟨hab, ⟨h1, rfl⟩ | ⟨h1, h2, rfl⟩ | ⟨h1, k, x, s', h2, h3, rfl, h4⟩⟩
  · exact ⟨hab, _, by unfold takeX; rw [takeE_bad h1]; rfl, by unfold takeV; rw [takeE_bad h1]; exact nilF _ _⟩
  · exact ⟨hab, _, by unfold takeX; rw [takeE_none h1 h2]; rfl, by unfold takeV; rw [takeE_none h1 h2]; exact nilF _ _⟩
  · have hne : ¬ takeF l q l.length < 0 := by omega
    have e : (takeF l q l.length).toNat = k := by rw [h2]; simp
    exact ⟨hab, s', by unfold takeX; rw [takeE_ok h1 hne, if_pos rfl, e, g_of h3], by unfold takeV; rw [takeE_ok h1 hne, e]; exact h4⟩
theorem rtake_c (q : Int) (h : Its H s l) (hn : l.length ≤ 1000000) : CallWp Try.prog X4 29 [s, .int .u64 q] H (fun r H' => Above H H' ∧ ∃ s', r = .tuple [.agg (takeX l q).cells, s', .int .i64 (takeE l q)] ∧ ItsF H H' s' (rtakeV l q)) := by
  obtain ⟨p, c, ex, rfl, hl⟩ := h
  refine (rtake29 H p c ex l q hl hn).mono ?_
  rintro r H' ⟨hab, ⟨h1, rfl⟩ | ⟨h1, h2, rfl⟩ | ⟨h1, k, x, s', h2, h3, rfl, h4⟩⟩
  · exact ⟨hab, _, by unfold takeX; rw [takeE_bad h1]; rfl, by unfold rtakeV; rw [takeE_bad h1]; exact nilF H _⟩
  · have hneg : takeF l q l.length < 0 := by
      rcases takeF_spec l q l.length (Nat.le_refl _) with ⟨h, _⟩ | ⟨a, h5, h6, h7, h8⟩
      · exact h
      · obtain ⟨k, hk, _⟩ := take_some h5 (g_at h6)
        rw [h2] at hk; cases hk
    exact ⟨hab, _, by unfold takeX; rw [takeE_none h1 hneg]; rfl, by unfold rtakeV; rw [takeE_none h1 hneg]; exact nilF H _⟩
  · rcases takeF_spec l q l.length (Nat.le_refl _) with ⟨h5, _⟩ | ⟨a, h5, h6, h7, h8⟩
    · rw [take_none h5] at h2; cases h2
    · obtain ⟨k', hk', hx', he, _⟩ := take_some h5 (g_at h6)
      rw [h2] at hk'; cases hk'
      rw [h3] at hx'
      have hne : ¬ takeF l q l.length < 0 := by omega
      have e : (takeF l q l.length).toNat = a := by rw [h5]; simp
      have hxe : x = g l a := by simpa using hx'
      exact ⟨hab, s', by unfold takeX; rw [takeE_ok h1 hne, if_pos rfl, e, hxe], by unfold rtakeV; rw [takeE_ok h1 hne, if_pos rfl, e, he]; exact h4⟩
theorem build_c (h : Its H s l) (hn : l.length ≤ 4096) : CallWp Try.prog X4 24 [s] H (fun r H' => Above H H' ∧ ∃ s', r = .tuple [s', .int .i64 0] ∧ ItsF H H' s' (buildL l)) := by
  obtain ⟨p, c, ex, rfl, hl⟩ := h
  refine (build24 H p c ex l hl (by omega)).mono ?_
  rintro r H' ⟨hab, ⟨h1, rfl⟩ | ⟨h1, s', rfl, h3⟩⟩
  · omega
  · exact ⟨hab, s', rfl, h3⟩
theorem build_big (h : Its H s l) (hn : l.length ≤ 1000000) (hb : 4096 < l.length) : CallWp Try.prog X4 24 [s] H (fun r H' => Above H H' ∧ r = .tuple [.sl none 0 0 true, .int .i64 7]) := by
  obtain ⟨p, c, ex, rfl, hl⟩ := h
  refine (build24 H p c ex l hl hn).mono ?_
  rintro r H' ⟨hab, ⟨h1, rfl⟩ | ⟨h1, s', rfl, h3⟩⟩
  · exact ⟨hab, rfl⟩
  · omega
theorem sorted_c (h : Its H s l) (hn : l.length ≤ 1000000) : CallWp Try.prog X4 22 [s] H (fun r H' => Above H H' ∧ ItsF H H' r (sortL l)) := by
  obtain ⟨p, c, ex, rfl, hl⟩ := h
  exact sorted22 H p c ex l hl hn
theorem is_c {t : DV} {m : List Item} (h : Its H s l) (k : Its H t m) (hn : l.length ≤ 1000000) : CallWp Try.prog X4 25 [s, t] H (fun r H' => Above H H' ∧ r = .bool (checkB l && decide (sortL l = m))) := by
  obtain ⟨p, c, ex, rfl, hl⟩ := h
  obtain ⟨p', c', ex', rfl, hm⟩ := k
  exact is25 H p p' c c' ex ex' l m hl hm hn
theorem same_t {t : DV} {m : List Item} (h : Its H s l) (k : Its H t m) : gSame [s, t] H = some (.bool (decide (l = m)), H) := by
  obtain ⟨p, c, ex, rfl, hl⟩ := h
  obtain ⟨p', c', ex', rfl, hm⟩ := k
  exact hl.same hm
end
/-! ### what the laws ask -/
theorem pushV_len {l : List Item} {x : Item} (h : pushE l = 0) : (pushV l x).length = l.length + 1 := by unfold pushV; rw [if_pos h, upL_length]; simp
theorem pushE_zero {l : List Item} (h : pushE l = 0) : Heap l ∧ l.length < 4096 := by
  unfold pushE at h
  split at h
  · rename_i hc
    split at h
    · simp at h
    · have := checkB_heap.mp hc
      exact ⟨this.1, by omega⟩
  · simp at h
theorem pushV_heap {l : List Item} {x : Item} (h : pushE l = 0) : Heap (pushV l x) := by unfold pushV; rw [if_pos h]; exact pushL_heap (pushE_zero h).1
theorem pushV_perm {l : List Item} {x : Item} (h : pushE l = 0) : List.Perm (pushV l x) (x :: l) := by unfold pushV; rw [if_pos h]; exact (upL_perm _ _).trans (List.perm_append_singleton _ _)
theorem push_is (l : List Item) (x : Item) : (checkB (pushV l x) && decide (sortL (pushV l x) = rpushV l x)) = true := by
  by_cases h : pushE l = 0
  · rw [Bool.and_eq_true, decide_eq_true_eq]
    refine ⟨checkB_heap.mpr ⟨pushV_heap h, by rw [pushV_len h]; have := (pushE_zero h).2; omega⟩, ?_⟩
    unfold rpushV
    rw [if_pos h]
    exact sortL_of_perm ((pushV_perm h).trans (((sortL_perm l).symm.cons x).trans (putL_perm _ _).symm)) (putL_sorted (sortL_sorted l) x)
  · have e1 : pushV l x = [] := by unfold pushV; rw [if_neg h]
    have e2 : rpushV l x = [] := by unfold rpushV; rw [if_neg h]
    rw [e1, e2]; rfl
theorem popE_zero {l : List Item} (h : popE l = 0) : Heap l ∧ l.length ≤ 4096 ∧ 0 < l.length := by
  unfold popE at h
  split at h
  · rename_i hc
    split at h
    · simp at h
    · rename_i hne
      have := checkB_heap.mp hc
      exact ⟨this.1, this.2, List.length_pos_iff.mpr hne⟩
  · simp at h
theorem popV_heap {l : List Item} (h : popE l = 0) : Heap (popV l) := by unfold popV; rw [if_pos h]; exact withoutL_heap (popE_zero h).1 (popE_zero h).2.2
theorem popV_len {l : List Item} (h : popE l = 0) : (popV l).length = l.length - 1 := by unfold popV; rw [if_pos h]; exact withoutL_length (popE_zero h).2.2
theorem pop_is (l : List Item) : (checkB (popV l) && decide (sortL (popV l) = rpopV l)) = true := by
  by_cases h : popE l = 0
  · rw [Bool.and_eq_true, decide_eq_true_eq]
    refine ⟨checkB_heap.mpr ⟨popV_heap h, by rw [popV_len h]; have := (popE_zero h).2.1; omega⟩, ?_⟩
    obtain ⟨t, h1, h2, h3⟩ := sortL_first (popE_zero h).1 (g_at (popE_zero h).2.2)
    unfold popV rpopV
    rw [if_pos h, if_pos h, h1]
    exact sortL_of_perm h2 h3
  · have e1 : popV l = [] := by unfold popV; rw [if_neg h]
    have e2 : rpopV l = [] := by unfold rpopV; rw [if_neg h]
    rw [e1, e2]; rfl
theorem takeE_zero {l : List Item} {q : Int} (h : takeE l q = 0) : Heap l ∧ l.length ≤ 4096 ∧ ∃ a : Nat, takeF l q l.length = (a : Int) ∧ a < l.length ∧ (g l a).s = q := by
  unfold takeE at h
  split at h
  · rename_i hc
    split at h
    · simp at h
    · rename_i hne
      have := checkB_heap.mp hc
      refine ⟨this.1, this.2, ?_⟩
      rcases takeF_spec l q l.length (Nat.le_refl _) with ⟨h, _⟩ | ⟨a, h5, h6, h7, h8⟩
      · exact absurd h hne
      · exact ⟨a, h5, h6, h7⟩
  · simp at h
theorem take_is (l : List Item) (q : Int) : (checkB (takeV l q) && decide (sortL (takeV l q) = rtakeV l q)) = true := by
  by_cases h : takeE l q = 0
  · obtain ⟨h1, h2, a, h3, h4, h5⟩ := takeE_zero h
    rw [Bool.and_eq_true, decide_eq_true_eq]
    unfold takeV rtakeV
    rw [if_pos h, if_pos h, h3, Int.toNat_natCast]
    exact ⟨checkB_heap.mpr ⟨withoutL_heap h1 h4, by rw [withoutL_length (by omega)]; omega⟩, rfl⟩
  · have e1 : takeV l q = [] := by unfold takeV; rw [if_neg h]
    have e2 : rtakeV l q = [] := by unfold rtakeV; rw [if_neg h]
    rw [e1, e2]; rfl
end Go.Det.Q

/- Arguments. -/
namespace Go.Det.Q
open Go Go.Det Go.Proofs
set_option maxRecDepth 4000
set_option linter.unusedVariables false
set_option linter.unusedSimpArgs false
def i64ok (x : Int) : Prop := -9223372036854775808 ≤ x ∧ x ≤ 9223372036854775807
def u64ok (x : Int) : Prop := 0 ≤ x ∧ x ≤ 18446744073709551615
theorem i64_of {x : Int} (h : (Lit.int .i64 x).wf = true) : i64ok x := by
  simp [Lit.wf, IntKind.min, IntKind.max, IntKind.signed, IntKind.bits] at h
  exact h
theorem u64_of {x : Int} (h : (Lit.int .u64 x).wf = true) : u64ok x := by
  simp [Lit.wf, IntKind.min, IntKind.max, IntKind.signed, IntKind.bits] at h
  unfold u64ok
  omega
structure Item.ok (x : Item) : Prop where
  a : i64ok x.a
  c : i64ok x.c
  s : u64ok x.s
  w : i64ok x.w
  h : i64ok x.h
  n : u64ok x.n
theorem item_in {H : DH} {cs : List DV} (h : Typed Try.prog H 26 cs) : ∃ x : Item, cs = x.cells ∧ x.ok := by
  obtain ⟨h1, h2⟩ := typed_struct (fs := _) Try.underlying26 h
  have hsz : Try.prog.cellsOf 26 = 6 := by kernel_rfl
  have c2 : Try.prog.cellsOf 2 = 1 := by kernel_rfl
  have c3 : Try.prog.cellsOf 3 = 1 := by kernel_rfl
  have c24 : Try.prog.cellsOf 24 = 1 := by kernel_rfl
  rw [hsz] at h1
  obtain ⟨x0, x1, x2, x3, x4, x5, rfl⟩ := len6 h1
  simp only [List.forall_mem_cons, c2, c3, c24, List.drop_zero, List.drop_succ_cons, List.take_succ_cons, List.take_zero] at h2
  obtain ⟨t0, t1, t2, t3, t4, t5, _⟩ := h2
  obtain ⟨a, e0, w0⟩ := typed_int Try.underlying2 t0
  obtain ⟨b, e1, w1⟩ := typed_int Try.underlying3 t1
  obtain ⟨c, e2, w2⟩ := typed_int Try.underlying24 t2
  obtain ⟨d, e3, w3⟩ := typed_int Try.underlying3 t3
  obtain ⟨e, e4, w4⟩ := typed_int Try.underlying3 t4
  obtain ⟨f, e5, w5⟩ := typed_int Try.underlying24 t5
  cases e0; cases e1; cases e2; cases e3; cases e4; cases e5
  exact ⟨⟨a, b, c, d, e, f⟩, rfl, ⟨i64_of w0, i64_of w1, u64_of w2, i64_of w3, i64_of w4, u64_of w5⟩⟩
theorem items_rows {H : DH} : ∀ (rs : List (List DV)), (∀ r ∈ rs, Typed Try.prog H 26 r) → ∃ l : List Item, rs = l.map Item.cells ∧ ∀ x ∈ l, x.ok
  | [], _ => ⟨[], rfl, fun a h => by cases h⟩
  | r :: rs, h => by
    obtain ⟨x, hx, hok⟩ := item_in (h r (by simp))
    obtain ⟨l, hl, hall⟩ := items_rows rs fun r' hr => h r' (by simp [hr])
    exact ⟨x :: l, by rw [hx, hl]; rfl, fun y hy => by
      rcases List.mem_cons.mp hy with rfl | hy
      · exact hok
      · exact hall y hy⟩
theorem items_typed {H : DH} (hw : WF H) {d : DV} (h' : Typed Try.prog H 23 [d]) : ∃ p c ex l, d = .sl p l.length c ex ∧ It H p c ex l ∧ ∀ x ∈ l, x.ok := by
  have hsz : Try.prog.cellsOf 26 = 6 := by kernel_rfl
  rcases typed_slice Try.underlying23 h' with h | ⟨l, n, rs, h, ho, hn, hm, hr⟩
  · cases h
    exact ⟨none, 0, true, [], rfl, .nil0 H, fun a ha => by cases ha⟩
  · rw [hsz] at h ho
    cases h
    obtain ⟨L, hL, hall⟩ := items_rows (rs.take n) (fun r hr' => by
      obtain ⟨i, hi, rfl⟩ := List.getElem_of_mem (List.mem_of_mem_take hr')
      exact hr i _ (List.getElem?_eq_getElem hi))
    have hlen : L.length = n := by
      have := congrArg List.length hL
      rw [List.length_map, List.length_take] at this
      omega
    exact ⟨some (l, 0, 6), rs.length, true, L, by rw [hlen], ⟨.at (hw _ _ ho) ho (by rw [List.length_map, hlen]; omega) (by rw [List.length_map, hlen, List.drop_zero, hL]), fun h => (by cases h), by rw [hlen]; omega, by rw [hlen]; exact hn⟩, hall⟩
theorem items_in {H : DH} (hw : WF H) {d : DV} (h : TArg Try.prog H 23 d) : ∃ p c ex l, d = .sl p l.length c ex ∧ It H p c ex l ∧ ∀ x ∈ l, x.ok :=
  items_typed hw (targ_one (by rw [Try.underlying23]; simp) (by rw [Try.underlying23]; simp) h)
theorem item_arg {H : DH} {d : DV} (h : TArg Try.prog H 26 d) : ∃ x : Item, d = .agg x.cells ∧ x.ok := by
  obtain ⟨ds, rfl, t⟩ := targ_agg Try.underlying26 h
  obtain ⟨x, rfl, hx⟩ := item_in t
  exact ⟨x, rfl, hx⟩
theorem u64_arg {H : DH} {d : DV} (h : TArg Try.prog H 24 d) : ∃ x, d = .int .u64 x ∧ u64ok x := by
  obtain ⟨x, e, hw⟩ := typed_int Try.underlying24 (targ_one (by rw [Try.underlying24]; simp) (by rw [Try.underlying24]; simp) h)
  cases e; exact ⟨x, rfl, u64_of hw⟩
end Go.Det.Q
