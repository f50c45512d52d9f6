/- Arguments. -/
import Derived.Test.YtpgobchpnjgbdaaHOrd9
namespace Go.Det.Q
open Go Go.Det Go.Proofs
set_option maxRecDepth 4000
set_option linter.unusedVariables false
set_option linter.unusedSimpArgs false
def i64ok (x : Int) : Prop := -9223372036854775808 ≤ x ∧ x ≤ 9223372036854775807
def u64ok (x : Int) : Prop := 0 ≤ x ∧ x ≤ 18446744073709551615
theorem i64_of {x : Int} (h : (Lit.int .i64 x).wf = true) : i64ok x := by
  simp [Lit.wf, IntKind.min, IntKind.max, IntKind.signed, IntKind.bits] at h
  exact h
theorem u64_of {x : Int} (h : (Lit.int .u64 x).wf = true) : u64ok x := by
  simp [Lit.wf, IntKind.min, IntKind.max, IntKind.signed, IntKind.bits] at h
  unfold u64ok
  omega
structure Item.ok (x : Item) : Prop where
  a : i64ok x.a
  c : i64ok x.c
  s : u64ok x.s
  w : i64ok x.w
  h : i64ok x.h
  n : u64ok x.n
theorem item_in {H : DH} {cs : List DV} (h : Typed Try.prog H 26 cs) : ∃ x : Item, cs = x.cells ∧ x.ok := by
  obtain ⟨h1, h2⟩ := typed_struct (fs := _) Try.underlying26 h
  have hsz : Try.prog.cellsOf 26 = 6 := by kernel_rfl
  have c2 : Try.prog.cellsOf 2 = 1 := by kernel_rfl
  have c3 : Try.prog.cellsOf 3 = 1 := by kernel_rfl
  have c24 : Try.prog.cellsOf 24 = 1 := by kernel_rfl
  rw [hsz] at h1
  obtain ⟨x0, x1, x2, x3, x4, x5, rfl⟩ := len6 h1
  simp only [List.forall_mem_cons, c2, c3, c24, List.drop_zero, List.drop_succ_cons, List.take_succ_cons, List.take_zero] at h2
  obtain ⟨t0, t1, t2, t3, t4, t5, _⟩ := h2
  obtain ⟨a, e0, w0⟩ := typed_int Try.underlying2 t0
  obtain ⟨b, e1, w1⟩ := typed_int Try.underlying3 t1
  obtain ⟨c, e2, w2⟩ := typed_int Try.underlying24 t2
  obtain ⟨d, e3, w3⟩ := typed_int Try.underlying3 t3
  obtain ⟨e, e4, w4⟩ := typed_int Try.underlying3 t4
  obtain ⟨f, e5, w5⟩ := typed_int Try.underlying24 t5
  cases e0; cases e1; cases e2; cases e3; cases e4; cases e5
  exact ⟨⟨a, b, c, d, e, f⟩, rfl, ⟨i64_of w0, i64_of w1, u64_of w2, i64_of w3, i64_of w4, u64_of w5⟩⟩
theorem items_rows {H : DH} : ∀ (rs : List (List DV)), (∀ r ∈ rs, Typed Try.prog H 26 r) → ∃ l : List Item, rs = l.map Item.cells ∧ ∀ x ∈ l, x.ok
  | [], _ => ⟨[], rfl, fun a h => by cases h⟩
  | r :: rs, h => by
    obtain ⟨x, hx, hok⟩ := item_in (h r (by simp))
    obtain ⟨l, hl, hall⟩ := items_rows rs fun r' hr => h r' (by simp [hr])
    exact ⟨x :: l, by rw [hx, hl]; rfl, fun y hy => by
      rcases List.mem_cons.mp hy with rfl | hy
      · exact hok
      · exact hall y hy⟩
theorem items_typed {H : DH} (hw : WF H) {d : DV} (h' : Typed Try.prog H 23 [d]) : ∃ p c ex l, d = .sl p l.length c ex ∧ It H p c ex l ∧ ∀ x ∈ l, x.ok := by
  have hsz : Try.prog.cellsOf 26 = 6 := by kernel_rfl
  rcases typed_slice Try.underlying23 h' with h | ⟨l, n, rs, h, ho, hn, hm, hr⟩
  · cases h
    exact ⟨none, 0, true, [], rfl, .nil0 H, fun a ha => by cases ha⟩
  · rw [hsz] at h ho
    cases h
    obtain ⟨L, hL, hall⟩ := items_rows (rs.take n) (fun r hr' => by
      obtain ⟨i, hi, rfl⟩ := List.getElem_of_mem (List.mem_of_mem_take hr')
      exact hr i _ (List.getElem?_eq_getElem hi))
    have hlen : L.length = n := by
      have := congrArg List.length hL
      rw [List.length_map, List.length_take] at this
      omega
    exact ⟨some (l, 0, 6), rs.length, true, L, by rw [hlen], ⟨.at (hw _ _ ho) ho (by rw [List.length_map, hlen]; omega) (by rw [List.length_map, hlen, List.drop_zero, hL]), fun h => (by cases h), by rw [hlen]; omega, by rw [hlen]; exact hn⟩, hall⟩
theorem items_in {H : DH} (hw : WF H) {d : DV} (h : TArg Try.prog H 23 d) : ∃ p c ex l, d = .sl p l.length c ex ∧ It H p c ex l ∧ ∀ x ∈ l, x.ok :=
  items_typed hw (targ_one (by rw [Try.underlying23]; simp) (by rw [Try.underlying23]; simp) h)
end Go.Det.Q

/- HeapOrders: the law's own text. -/
namespace Go.Det.Q
open Go Go.Det Go.Proofs
set_option maxRecDepth 4000
set_option maxHeartbeats 8000000
set_option linter.unusedVariables false
set_option linter.unusedSimpArgs false
theorem It.monoX {x : Nat → Prop} {H H' : DH} {p : Option (Nat × Nat × Nat)} {c : Nat} {ex : Bool} {l : List Item} (h : It H p c ex l) (ha : AboveX x H H') (hx : ∀ loc i z, p = some (loc, i, z) → ¬ x loc) : It H' p c ex l := ⟨h.sl.monoX ha hx, h.nil, h.len, h.cap⟩
/-- A heap's slice, and what has come out so far, apart. -/
structure Two (A H : DH) (p : Option (Nat × Nat × Nat)) (c : Nat) (ex : Bool) (h : List Item) (p' : Option (Nat × Nat × Nat)) (c' : Nat) (ex' : Bool) (out : List Item) : Prop where
  it : It H p c ex h
  mine : Mine A H 6 (out.map Item.cells) (.sl p' out.length c' ex')
  ab : Above A H
  sep : ∀ l i z, p = some (l, i, z) → ¬ leads (.sl p' out.length c' ex') l
theorem Two.mono {A H H' : DH} {p : Option (Nat × Nat × Nat)} {c : Nat} {ex : Bool} {h : List Item} {p' : Option (Nat × Nat × Nat)} {c' : Nat} {ex' : Bool} {out : List Item} (t : Two A H p c ex h p' c' ex' out) (k : Above H H') : Two A H' p c ex h p' c' ex' out :=
  ⟨t.it.mono k, t.mine.mono k, t.ab.trans k, t.sep⟩
theorem mine_lt {A H : DH} {z : Nat} {R : List (List DV)} {s : DV} (h : Mine A H z R s) : ∀ m, leads s m → m < H.next := by
  intro m hm
  obtain ⟨i, z', n, c, ex, e⟩ := hm
  cases h with
  | nil h => cases e
  | empty h h1 h2 h3 => cases e; exact h1
  | «at» h1 h2 h3 => cases e; exact h2
/-- Another heap in its place, made since. -/
theorem Two.next {A H H' : DH} {p : Option (Nat × Nat × Nat)} {c : Nat} {ex : Bool} {h : List Item} {p' : Option (Nat × Nat × Nat)} {c' : Nat} {ex' : Bool} {out : List Item} (t : Two A H p c ex h p' c' ex' out) (k : Above H H')
    {p2 : Option (Nat × Nat × Nat)} {c2 : Nat} {ex2 : Bool} {h2 : List Item} (hi : It H' p2 c2 ex2 h2) (hf : ∀ l i z, p2 = some (l, i, z) → H.next ≤ l) : Two A H' p2 c2 ex2 h2 p' c' ex' out :=
  ⟨hi, t.mine.mono k, t.ab.trans k, fun l i z e hl => by have := mine_lt t.mine l hl; have := hf l i z e; omega⟩
theorem popV_mem {l : List Item} (h : popE l = 0) : ∀ z ∈ popV l, ilt z (popX l) = false := fun z hz => pop_first h z ((popV_perm h).mem_iff.mpr (List.mem_cons_of_mem _ hz))
/-- One more has come out. -/
theorem op_out {o : Oper} {x y : Operand} {A H : DH} {p : Option (Nat × Nat × Nat)} {c : Nat} {ex : Bool} {h : List Item} {p' : Option (Nat × Nat × Nat)} {c' : Nat} {ex' : Bool} {out : List Item} (ho : o.op = .call ⟨.builtin .append, #[x, y], #[23, 23]⟩) {env : List DV} {K : DV → DH → Prop} {z : Item} {loc : Nat}
    (hx : evalO env x = some (.sl p' out.length c' ex')) (hy : evalO env y = some (.sl (some (loc, 0, 6)) 1 1 true)) (hb : H.obj loc = some (.rows false 6 [z.cells])) (hl : loc < H.next) (t : Two A H p c ex h p' c' ex' out) (hn : out.length ≤ 100)
    (hk : ∀ p2 c2 ex2 H', Two A H' p c ex h p2 c2 ex2 (out ++ [z]) → (∀ m ob, m < H.next → H.obj m = some ob → m < A.next ∨ ¬ leads (.sl p' out.length c' ex') m → H'.obj m = some ob) → H.next ≤ H'.next → K (.sl p2 (out ++ [z]).length c2 ex2) H') : OpWp Try.prog X4 o env H K := by
  refine op_append2 (xt := 23) (new := [z.cells]) ho hx hy E23 t.mine t.ab (appended_sl (R := [z.cells]) Try.underlying23 (.at hl hb (by simp) (by simp)) 1 true) rfl (by rw [List.length_map]; show _ + 1 ≤ mostD; unfold mostD; omega) ?_
  intro s' H' hm hab hax hlead
  have e : out.map Item.cells ++ [z.cells] = (out ++ [z]).map Item.cells := by simp
  rw [e] at hm
  obtain ⟨p2, c2, ex2, rfl, hi2⟩ := it_of_mine hm (by simp; unfold maxLen; omega)
  refine hk p2 c2 ex2 H' ⟨t.it.monoX hax (fun l i z e hx => t.sep l i z e hx.2), hm, hab, fun l i z e hl' => ?_⟩ (fun m ob hlt hm' hc => ?_) hax.le
  · rcases hlead l hl' with h1 | h1
    · exact t.sep l i z e h1
    · have : l < H.next := by
        have := t.it.sl
        subst e
        cases this
        assumption
      omega
  · rw [hax.same m hlt (fun hx => hc.elim (fun h1 => by omega) (fun h1 => h1 hx.2))]
    exact hm'
theorem bytes_in {H : DH} (hw : WF H) {d : DV} (h : TArg Try.prog H 32 d) : ∃ (p : Option (Nat × Nat × Nat)) (n c : Nat) (ex : Bool), d = .sl p n c ex ∧ ∀ k, k < n → ∃ loc i ro rs b, p = some (loc, i, 1) ∧ loc < H.next ∧ H.obj loc = some (.rows ro 1 rs) ∧ rs[i + k]? = some [.int .u8 b] ∧ 0 ≤ b ∧ b ≤ 255 := by
  have hsz : Try.prog.cellsOf 5 = 1 := by kernel_rfl
  have h' := targ_one (by rw [Try.underlying32]; simp) (by rw [Try.underlying32]; simp) h
  rcases typed_slice Try.underlying32 h' with h | ⟨l, n, rs, h, ho, hn, hm, hr⟩
  · cases h
    exact ⟨none, 0, 0, true, rfl, fun k hk => by omega⟩
  · rw [hsz] at h ho
    cases h
    refine ⟨_, _, _, _, rfl, fun k hk => ?_⟩
    obtain ⟨b, e, hwf⟩ := typed_int Try.underlying5 (hr k _ (List.getElem?_eq_getElem (by omega)))
    refine ⟨l, 0, true, rs, b, rfl, hw _ _ ho, ho, by rw [Nat.zero_add, List.getElem?_eq_getElem (by omega), e], ?_⟩
    simp [Lit.wf, IntKind.min, IntKind.max, IntKind.signed, IntKind.bits] at hwf
    omega
theorem out_at {A H : DH} {p : Option (Nat × Nat × Nat)} {c : Nat} {ex : Bool} {h : List Item} {p' : Option (Nat × Nat × Nat)} {c' : Nat} {ex' : Bool} {out : List Item} (t : Two A H p c ex h p' c' ex' out) (hn : out.length ≤ 1000) {k : Nat} {x : Item} (hk : out[k]? = some x) :
    ∃ loc i ro rs, p' = some (loc, i, 6) ∧ loc < H.next ∧ H.obj loc = some (.rows ro 6 rs) ∧ rs[i + k]? = some x.cells := by
  obtain ⟨p2, c2, ex2, e, hi⟩ := it_of_mine t.mine (by unfold maxLen; omega)
  cases e
  exact hi.rd hk
theorem out_it {A H : DH} {p : Option (Nat × Nat × Nat)} {c : Nat} {ex : Bool} {h : List Item} {p' : Option (Nat × Nat × Nat)} {c' : Nat} {ex' : Bool} {out : List Item} (t : Two A H p c ex h p' c' ex' out) (hn : out.length ≤ 1000) : Its H (.sl p' out.length c' ex') out := by
  obtain ⟨p2, c2, ex2, e, hi⟩ := it_of_mine t.mine (by unfold maxLen; omega)
  exact ⟨p2, c2, ex2, e, hi⟩
theorem told2 {β : Type} {e : Option (DV × β)} {v w : DV} {H : β} (h : e = some (v, H)) (k : v = w) : e = some (w, H) := by subst k; exact h
def lnOf (st : DSt) (s : Nat) : Nat := match st.env.getD s undefD with | .sl _ n _ _ => n | _ => 0
theorem law4 (H : DH) (p pp : Option (Nat × Nat × Nat)) (c np cp : Nat) (ex ep : Bool) (l : List Item) (hl : It H p c ex l) (hpp : ∀ k, k < np → ∃ loc i ro rs b, pp = some (loc, i, 1) ∧ loc < H.next ∧ H.obj loc = some (.rows ro 1 rs) ∧ rs[i + k]? = some [.int .u8 b] ∧ 0 ≤ b ∧ b ≤ 255) :
    CallWp Try.prog X4 4 [.sl p l.length c ex, .sl pp np cp ep] H (fun r H' => r = .bool true) := by
  by_cases h1 : decide ((l.length : Int) > 100) = true
  · skip
    refine enter rfl Try.func4 rfl Try.ntmps4 rfl ?_
    dsimp only [List.cons_append, List.nil_append, List.length_cons, List.length_nil, List.replicate_succ, List.replicate_zero, Nat.reduceAdd, Nat.reduceSub]
    repeat' (first
      | dsimp only [putD, DV.cells, DH.new_next, DH.set_next, List.length_cons, List.length_nil, Nat.reduceAdd, List.set_cons_zero, List.set_cons_succ, getD_zero, getD_succ, fieldAt_zero, fieldAt_succ, thenD, blockD, retR]
      | apply dwp_seq
      | apply dwp_region
      | apply ops_nil
      | (apply ops_plain; (· exact rfl))
      | (apply ops_on; (· exact rfl); (· exact rfl); (· (first | with_reducible assumption | with_reducible rfl | decide)))
      | (apply ops_off1; (· exact rfl); (· exact rfl); (· (first | with_reducible assumption | with_reducible rfl | decide)))
      | (apply ops_off0; (· exact rfl); (· exact rfl); (· (first | with_reducible assumption | with_reducible rfl | decide)))
      | (apply ops_offn; (· exact rfl); (· exact rfl))
      | (apply ops_split1; (· exact rfl); (· exact rfl); all_goals intro hb)
      | (apply ops_split0; (· exact rfl); (· exact rfl); all_goals intro hb)
      | (apply op_call; (· exact rfl); (· exact rfl); (· exact rfl); refine call_table (g := gLive) rfl rfl ?_)
      | (apply op_pick_t; (· exact rfl); (· exact rfl); (· (first | with_reducible assumption | with_reducible rfl | decide)); (· exact rfl))
      | (apply op_pick_f; (· exact rfl); (· exact rfl); (· (first | with_reducible assumption | with_reducible rfl | decide)); (· exact rfl))
      | (apply op_load_at; (· exact rfl); (· exact rfl); (· repeat (first | with_reducible assumption | (with_reducible apply obj_here; with_reducible rfl) | with_reducible apply obj_set | (with_reducible apply obj_skip_lo; (· ((repeat (first | with_reducible assumption | with_reducible apply Lo.self | with_reducible apply Lo.new | with_reducible apply Lo.set | with_reducible apply Lo.self1 | with_reducible apply Lo.self2)); done))) | (with_reducible apply obj_past; (· ((first | with_reducible assumption | with_reducible apply ne_add1 | with_reducible apply ne_add1' | with_reducible apply ne_add2 | with_reducible apply ne_add2' | with_reducible apply ne_add12 | with_reducible apply ne_add21 | (with_reducible apply Lo.ne; (repeat (first | with_reducible assumption | with_reducible apply Lo.self | with_reducible apply Lo.new | with_reducible apply Lo.set | with_reducible apply Lo.self1 | with_reducible apply Lo.self2)); done) | (with_reducible apply Lo.ne1; (repeat (first | with_reducible assumption | with_reducible apply Lo.self | with_reducible apply Lo.new | with_reducible apply Lo.set | with_reducible apply Lo.self1 | with_reducible apply Lo.self2)); done) | (with_reducible apply Lo.ne'; (repeat (first | with_reducible assumption | with_reducible apply Lo.self | with_reducible apply Lo.new | with_reducible apply Lo.set | with_reducible apply Lo.self1 | with_reducible apply Lo.self2)); done) | (with_reducible apply Lo.ne1'; (repeat (first | with_reducible assumption | with_reducible apply Lo.self | with_reducible apply Lo.new | with_reducible apply Lo.set | with_reducible apply Lo.self1 | with_reducible apply Lo.self2)); done)); done))))); (· exact rfl); (· exact rfl))
      | (apply op_store_at; (· exact rfl); (· exact rfl); (· exact rfl); (· repeat (first | with_reducible assumption | (with_reducible apply obj_here; with_reducible rfl) | with_reducible apply obj_set | (with_reducible apply obj_skip_lo; (· ((repeat (first | with_reducible assumption | with_reducible apply Lo.self | with_reducible apply Lo.new | with_reducible apply Lo.set | with_reducible apply Lo.self1 | with_reducible apply Lo.self2)); done))) | (with_reducible apply obj_past; (· ((first | with_reducible assumption | with_reducible apply ne_add1 | with_reducible apply ne_add1' | with_reducible apply ne_add2 | with_reducible apply ne_add2' | with_reducible apply ne_add12 | with_reducible apply ne_add21 | (with_reducible apply Lo.ne; (repeat (first | with_reducible assumption | with_reducible apply Lo.self | with_reducible apply Lo.new | with_reducible apply Lo.set | with_reducible apply Lo.self1 | with_reducible apply Lo.self2)); done) | (with_reducible apply Lo.ne1; (repeat (first | with_reducible assumption | with_reducible apply Lo.self | with_reducible apply Lo.new | with_reducible apply Lo.set | with_reducible apply Lo.self1 | with_reducible apply Lo.self2)); done) | (with_reducible apply Lo.ne'; (repeat (first | with_reducible assumption | with_reducible apply Lo.self | with_reducible apply Lo.new | with_reducible apply Lo.set | with_reducible apply Lo.self1 | with_reducible apply Lo.self2)); done) | (with_reducible apply Lo.ne1'; (repeat (first | with_reducible assumption | with_reducible apply Lo.self | with_reducible apply Lo.new | with_reducible apply Lo.set | with_reducible apply Lo.self1 | with_reducible apply Lo.self2)); done)); done))))); (· exact rfl); (· exact rfl); (· exact rfl))
      | (apply op_at; (· exact opD_eqb rfl rfl rfl rfl))
      | (apply op_at; (· exact opD_neqb rfl rfl rfl rfl))
      | (apply op_at; (· exact rfl))
      | (apply dwp_cond_t; (· exact rfl); (· (first | with_reducible assumption | with_reducible rfl | decide)))
      | (apply dwp_cond_f; (· exact rfl); (· (first | with_reducible assumption | with_reducible rfl | decide)))
      | (refine dwp_cond rfl ?_ ?_ <;> intro hb)
      | apply dwp_block
      | apply dwp_skip
      | apply dwp_ret
      | apply dwp_exit
      | (refine ⟨_, rfl, ?_⟩)
      | fail)
  · have h1' : decide ((l.length : Int) > 100) = false := by simpa using h1
    have hlen : l.length ≤ 100 := by simp only [decide_eq_false_iff_not] at h1'; omega
    have hup : ∀ {A H1 : DH} {o : DObj} {o' : Option DObj}, Above A H1 → Above A ((H1.new o).set H1.next o') := fun h => (h.new _).set h.le _
    refine enter rfl Try.func4 rfl Try.ntmps4 rfl ?_
    dsimp only [List.cons_append, List.nil_append, List.length_cons, List.length_nil, List.replicate_succ, List.replicate_zero, Nat.reduceAdd, Nat.reduceSub]
    repeat' (first
      | dsimp only [putD, DV.cells, DH.new_next, DH.set_next, List.length_cons, List.length_nil, Nat.reduceAdd, List.set_cons_zero, List.set_cons_succ, getD_zero, getD_succ, fieldAt_zero, fieldAt_succ, thenD, blockD, retR]
      | apply dwp_seq
      | apply dwp_region
      | apply ops_nil
      | (apply ops_plain; (· exact rfl))
      | (apply ops_on; (· exact rfl); (· exact rfl); (· (first | with_reducible assumption | with_reducible rfl | decide)))
      | (apply ops_off1; (· exact rfl); (· exact rfl); (· (first | with_reducible assumption | with_reducible rfl | decide)))
      | (apply ops_off0; (· exact rfl); (· exact rfl); (· (first | with_reducible assumption | with_reducible rfl | decide)))
      | (apply ops_offn; (· exact rfl); (· exact rfl))
      | (apply ops_split1; (· exact rfl); (· exact rfl); all_goals intro hb)
      | (apply ops_split0; (· exact rfl); (· exact rfl); all_goals intro hb)
      | (apply op_call; (· exact rfl); (· exact rfl); (· exact rfl); refine call_table (g := gLive) rfl rfl ?_)
      | (apply op_pick_t; (· exact rfl); (· exact rfl); (· (first | with_reducible assumption | with_reducible rfl | decide)); (· exact rfl))
      | (apply op_pick_f; (· exact rfl); (· exact rfl); (· (first | with_reducible assumption | with_reducible rfl | decide)); (· exact rfl))
      | (apply op_load_at; (· exact rfl); (· exact rfl); (· repeat (first | with_reducible assumption | (with_reducible apply obj_here; with_reducible rfl) | with_reducible apply obj_set | (with_reducible apply obj_skip_lo; (· ((repeat (first | with_reducible assumption | with_reducible apply Lo.self | with_reducible apply Lo.new | with_reducible apply Lo.set | with_reducible apply Lo.self1 | with_reducible apply Lo.self2)); done))) | (with_reducible apply obj_past; (· ((first | with_reducible assumption | with_reducible apply ne_add1 | with_reducible apply ne_add1' | with_reducible apply ne_add2 | with_reducible apply ne_add2' | with_reducible apply ne_add12 | with_reducible apply ne_add21 | (with_reducible apply Lo.ne; (repeat (first | with_reducible assumption | with_reducible apply Lo.self | with_reducible apply Lo.new | with_reducible apply Lo.set | with_reducible apply Lo.self1 | with_reducible apply Lo.self2)); done) | (with_reducible apply Lo.ne1; (repeat (first | with_reducible assumption | with_reducible apply Lo.self | with_reducible apply Lo.new | with_reducible apply Lo.set | with_reducible apply Lo.self1 | with_reducible apply Lo.self2)); done) | (with_reducible apply Lo.ne'; (repeat (first | with_reducible assumption | with_reducible apply Lo.self | with_reducible apply Lo.new | with_reducible apply Lo.set | with_reducible apply Lo.self1 | with_reducible apply Lo.self2)); done) | (with_reducible apply Lo.ne1'; (repeat (first | with_reducible assumption | with_reducible apply Lo.self | with_reducible apply Lo.new | with_reducible apply Lo.set | with_reducible apply Lo.self1 | with_reducible apply Lo.self2)); done)); done))))); (· exact rfl); (· exact rfl))
      | (apply op_store_at; (· exact rfl); (· exact rfl); (· exact rfl); (· repeat (first | with_reducible assumption | (with_reducible apply obj_here; with_reducible rfl) | with_reducible apply obj_set | (with_reducible apply obj_skip_lo; (· ((repeat (first | with_reducible assumption | with_reducible apply Lo.self | with_reducible apply Lo.new | with_reducible apply Lo.set | with_reducible apply Lo.self1 | with_reducible apply Lo.self2)); done))) | (with_reducible apply obj_past; (· ((first | with_reducible assumption | with_reducible apply ne_add1 | with_reducible apply ne_add1' | with_reducible apply ne_add2 | with_reducible apply ne_add2' | with_reducible apply ne_add12 | with_reducible apply ne_add21 | (with_reducible apply Lo.ne; (repeat (first | with_reducible assumption | with_reducible apply Lo.self | with_reducible apply Lo.new | with_reducible apply Lo.set | with_reducible apply Lo.self1 | with_reducible apply Lo.self2)); done) | (with_reducible apply Lo.ne1; (repeat (first | with_reducible assumption | with_reducible apply Lo.self | with_reducible apply Lo.new | with_reducible apply Lo.set | with_reducible apply Lo.self1 | with_reducible apply Lo.self2)); done) | (with_reducible apply Lo.ne'; (repeat (first | with_reducible assumption | with_reducible apply Lo.self | with_reducible apply Lo.new | with_reducible apply Lo.set | with_reducible apply Lo.self1 | with_reducible apply Lo.self2)); done) | (with_reducible apply Lo.ne1'; (repeat (first | with_reducible assumption | with_reducible apply Lo.self | with_reducible apply Lo.new | with_reducible apply Lo.set | with_reducible apply Lo.self1 | with_reducible apply Lo.self2)); done)); done))))); (· exact rfl); (· exact rfl); (· exact rfl))
      | (apply op_at; (· exact opD_eqb rfl rfl rfl rfl))
      | (apply op_at; (· exact opD_neqb rfl rfl rfl rfl))
      | (apply op_at; (· exact rfl))
      | (apply dwp_cond_t; (· exact rfl); (· (first | with_reducible assumption | with_reducible rfl | decide)))
      | (apply dwp_cond_f; (· exact rfl); (· (first | with_reducible assumption | with_reducible rfl | decide)))
      | (refine dwp_cond rfl ?_ ?_ <;> intro hb)
      | apply dwp_block
      | apply dwp_skip
      | apply dwp_ret
      | apply dwp_exit
      | (refine ⟨_, rfl, ?_⟩)
      | fail)
    refine dwp_loop (fun st => ∃ (Hk : DH) (k : Nat) (p6 : Option (Nat × Nat × Nat)) (c6 : Nat) (e6 : Bool) (h : List Item) (p7 : Option (Nat × Nat × Nat)) (c7 : Nat) (e7 : Bool) (out : List Item), ∃ J : Nat → DV, (k ≤ l.length ∧ Two H Hk p6 c6 e6 h p7 c7 e7 out ∧ Heap h ∧ List.Perm (out ++ h) (l.take k)) ∧ st = ⟨(.sl p l.length c ex :: .sl pp np cp ep :: J 2 :: J 3 :: J 4 :: .bool true :: .sl p6 h.length c6 e6 :: .sl p7 out.length c7 e7 :: J 8 :: J 9 :: J 10 :: J 11 :: J 12 :: J 13 :: J 14 :: J 15 :: J 16 :: J 17 :: J 18 :: J 19 :: J 20 :: J 21 :: J 22 :: J 23 :: J 24 :: J 25 :: J 26 :: J 27 :: .sl p l.length c ex :: .int .i64 l.length :: .int .i64 (k : Int) :: J 31 :: J 32 :: J 33 :: J 34 :: J 35 :: J 36 :: J 37 :: J 38 :: J 39 :: J 40 :: J 41 :: J 42 :: J 43 :: J 44 :: J 45 :: J 46 :: J 47 :: J 48 :: J 49 :: J 50 :: J 51 :: J 52 :: J 53 :: J 54 :: J 55 :: J 56 :: J 57 :: J 58 :: J 59 :: J 60 :: J 61 :: J 62 :: J 63 :: J 64 :: J 65 :: J 66 :: J 67 :: J 68 :: J 69 :: J 70 :: J 71 :: J 72 :: J 73 :: J 74 :: J 75 :: J 76 :: J 77 :: J 78 :: J 79 :: J 80 :: J 81 :: J 82 :: J 83 :: J 84 :: J 85 :: J 86 :: J 87 :: J 88 :: J 89 :: J 90 :: J 91 :: J 92 :: J 93 :: J 94 :: J 95 :: J 96 :: J 97 :: J 98 :: J 99 :: J 100 :: J 101 :: J 102 :: J 103 :: J 104 :: J 105 :: J 106 :: J 107 :: J 108 :: J 109 :: J 110 :: J 111 :: J 112 :: J 113 :: J 114 :: J 115 :: J 116 :: J 117 :: J 118 :: J 119 :: J 120 :: J 121 :: J 122 :: J 123 :: J 124 :: J 125 :: J 126 :: J 127 :: J 128 :: J 129 :: J 130 :: J 131 :: J 132 :: J 133 :: J 134 :: []), Hk⟩) (fun st => l.length - kOf st 30) (⟨H, 0, none, 0, true, [], none, 0, true, [], junk_facts (⟨Nat.zero_le _, ⟨.nil0 H, .nil rfl, Above.refl H, fun _ _ _ h => (by cases h)⟩, fun i h0 hi => absurd hi (Nat.not_lt_zero _), List.Perm.refl _⟩) rfl rfl⟩) ?_
    rintro st ⟨Hk, k, p6, c6, e6, h, p7, c7, e7, out, J, ⟨hk, ht, hh, hp⟩, rfl⟩
    have hpl := hp.length_eq
    rw [List.length_append, List.length_take] at hpl
    by_cases hlt : k < l.length
    · obtain ⟨x, hx⟩ : ∃ x, l[k]? = some x := ⟨l[k], List.getElem?_eq_getElem hlt⟩
      obtain ⟨loc, i0, ro, rs, rfl, hloc, ho, hrx⟩ := hl.rd hx
      have ho0 := ht.ab.obj hloc ho
      have hr1 : rs[i0 + ((k : Int)).toNat]? = some x.cells := by rw [Int.toNat_natCast]; exact hrx
      have hc : decide ((k : Int) < (l.length : Int)) = true := by simp [hlt]
      have hin1 : 0 ≤ (k : Int) ∧ (k : Int) < (l.length : Int) := by omega
      have hw := wrapNat (k := k) (by omega)
      have hE : pushE h = 0 := pushE_ok (checkB_heap.mpr ⟨hh, by omega⟩) (by omega)
      have ht0 : ∀ {o o'}, Two H ((Hk.new o).set Hk.next o') p6 c6 e6 h p7 c7 e7 out := fun {o o'} => ht.mono (hup (Above.refl _))
      have hmes : l.length - ((k + 1 : Nat) : Int).toNat < l.length - (k : Int).toNat := by omega
      have hp1 : List.Perm (out ++ pushV h x) (l.take (k + 1)) := by
        rw [List.take_add_one, hx]
        refine ((pushV_perm hE).append_left out).trans ?_
        refine List.perm_middle.trans ?_
        exact (hp.cons x).trans (List.perm_append_singleton _ _).symm
      have hh1 := pushV_heap (x := x) hE
      by_cases hnp : np ≤ k
      · have hcp : decide ((k : Int) ≥ (np : Int)) = true := by simp only [decide_eq_true_eq]; omega
        repeat' (first
          | dsimp only [putD, DV.cells, DH.new_next, DH.set_next, List.length_cons, List.length_nil, Nat.reduceAdd, List.set_cons_zero, List.set_cons_succ, getD_zero, getD_succ, fieldAt_zero, fieldAt_succ, thenD, blockD, retR]
          | apply dwp_seq
          | apply dwp_region
          | apply ops_nil
          | (apply ops_plain; (· exact rfl))
          | (apply ops_on; (· exact rfl); (· exact rfl); (· (first | with_reducible assumption | with_reducible rfl | decide)))
          | (apply ops_off1; (· exact rfl); (· exact rfl); (· (first | with_reducible assumption | with_reducible rfl | decide)))
          | (apply ops_off0; (· exact rfl); (· exact rfl); (· (first | with_reducible assumption | with_reducible rfl | decide)))
          | (apply ops_offn; (· exact rfl); (· exact rfl))
          | (apply ops_split1; (· exact rfl); (· exact rfl); all_goals intro hb)
          | (apply ops_split0; (· exact rfl); (· exact rfl); all_goals intro hb)
          | (apply op_call; (· exact rfl); (· exact rfl); (· exact rfl); refine (push_c x (⟨_, _, _, rfl, ht0.it⟩ : Its _ (.sl p6 h.length c6 e6) h) (by omega)).mono ?_; rintro r H1 ⟨ab1, s1, rfl, p1, c1, e1, rfl, it1, if1⟩; rw [hE]; have ht1 := ht0.next ab1 it1 if1)
          | (apply op_pick_t; (· exact rfl); (· exact rfl); (· (first | with_reducible assumption | with_reducible rfl | decide)); (· exact rfl))
          | (apply op_pick_f; (· exact rfl); (· exact rfl); (· (first | with_reducible assumption | with_reducible rfl | decide)); (· exact rfl))
          | (apply op_index_at; (· exact rfl); (· exact rfl); (· exact rfl); (· with_reducible exact hin1); (· exact rfl); (· exact rfl))
          | (apply op_load_at; (· exact rfl); (· exact rfl); (· with_reducible exact ho0); (· with_reducible exact hr1); (· exact (item_part x)))
          | (apply op_load_at; (· exact rfl); (· exact rfl); (· repeat (first | with_reducible assumption | (with_reducible apply obj_here; with_reducible rfl) | with_reducible apply obj_set | (with_reducible apply obj_skip_lo; (· ((repeat (first | with_reducible assumption | with_reducible apply Lo.self | with_reducible apply Lo.new | with_reducible apply Lo.set | with_reducible apply Lo.self1 | with_reducible apply Lo.self2)); done))) | (with_reducible apply obj_past; (· ((first | with_reducible assumption | with_reducible apply ne_add1 | with_reducible apply ne_add1' | with_reducible apply ne_add2 | with_reducible apply ne_add2' | with_reducible apply ne_add12 | with_reducible apply ne_add21 | (with_reducible apply Lo.ne; (repeat (first | with_reducible assumption | with_reducible apply Lo.self | with_reducible apply Lo.new | with_reducible apply Lo.set | with_reducible apply Lo.self1 | with_reducible apply Lo.self2)); done) | (with_reducible apply Lo.ne1; (repeat (first | with_reducible assumption | with_reducible apply Lo.self | with_reducible apply Lo.new | with_reducible apply Lo.set | with_reducible apply Lo.self1 | with_reducible apply Lo.self2)); done) | (with_reducible apply Lo.ne'; (repeat (first | with_reducible assumption | with_reducible apply Lo.self | with_reducible apply Lo.new | with_reducible apply Lo.set | with_reducible apply Lo.self1 | with_reducible apply Lo.self2)); done) | (with_reducible apply Lo.ne1'; (repeat (first | with_reducible assumption | with_reducible apply Lo.self | with_reducible apply Lo.new | with_reducible apply Lo.set | with_reducible apply Lo.self1 | with_reducible apply Lo.self2)); done)); done))))); (· exact rfl); (· exact item_part x))
          | (apply op_load_at; (· exact rfl); (· exact rfl); (· repeat (first | with_reducible assumption | (with_reducible apply obj_here; with_reducible rfl) | with_reducible apply obj_set | (with_reducible apply obj_skip_lo; (· ((repeat (first | with_reducible assumption | with_reducible apply Lo.self | with_reducible apply Lo.new | with_reducible apply Lo.set | with_reducible apply Lo.self1 | with_reducible apply Lo.self2)); done))) | (with_reducible apply obj_past; (· ((first | with_reducible assumption | with_reducible apply ne_add1 | with_reducible apply ne_add1' | with_reducible apply ne_add2 | with_reducible apply ne_add2' | with_reducible apply ne_add12 | with_reducible apply ne_add21 | (with_reducible apply Lo.ne; (repeat (first | with_reducible assumption | with_reducible apply Lo.self | with_reducible apply Lo.new | with_reducible apply Lo.set | with_reducible apply Lo.self1 | with_reducible apply Lo.self2)); done) | (with_reducible apply Lo.ne1; (repeat (first | with_reducible assumption | with_reducible apply Lo.self | with_reducible apply Lo.new | with_reducible apply Lo.set | with_reducible apply Lo.self1 | with_reducible apply Lo.self2)); done) | (with_reducible apply Lo.ne'; (repeat (first | with_reducible assumption | with_reducible apply Lo.self | with_reducible apply Lo.new | with_reducible apply Lo.set | with_reducible apply Lo.self1 | with_reducible apply Lo.self2)); done) | (with_reducible apply Lo.ne1'; (repeat (first | with_reducible assumption | with_reducible apply Lo.self | with_reducible apply Lo.new | with_reducible apply Lo.set | with_reducible apply Lo.self1 | with_reducible apply Lo.self2)); done)); done))))); (· exact rfl); (· exact rfl))
          | (apply op_store_at; (· exact rfl); (· exact rfl); (· exact rfl); (· repeat (first | with_reducible assumption | (with_reducible apply obj_here; with_reducible rfl) | with_reducible apply obj_set | (with_reducible apply obj_skip_lo; (· ((repeat (first | with_reducible assumption | with_reducible apply Lo.self | with_reducible apply Lo.new | with_reducible apply Lo.set | with_reducible apply Lo.self1 | with_reducible apply Lo.self2)); done))) | (with_reducible apply obj_past; (· ((first | with_reducible assumption | with_reducible apply ne_add1 | with_reducible apply ne_add1' | with_reducible apply ne_add2 | with_reducible apply ne_add2' | with_reducible apply ne_add12 | with_reducible apply ne_add21 | (with_reducible apply Lo.ne; (repeat (first | with_reducible assumption | with_reducible apply Lo.self | with_reducible apply Lo.new | with_reducible apply Lo.set | with_reducible apply Lo.self1 | with_reducible apply Lo.self2)); done) | (with_reducible apply Lo.ne1; (repeat (first | with_reducible assumption | with_reducible apply Lo.self | with_reducible apply Lo.new | with_reducible apply Lo.set | with_reducible apply Lo.self1 | with_reducible apply Lo.self2)); done) | (with_reducible apply Lo.ne'; (repeat (first | with_reducible assumption | with_reducible apply Lo.self | with_reducible apply Lo.new | with_reducible apply Lo.set | with_reducible apply Lo.self1 | with_reducible apply Lo.self2)); done) | (with_reducible apply Lo.ne1'; (repeat (first | with_reducible assumption | with_reducible apply Lo.self | with_reducible apply Lo.new | with_reducible apply Lo.set | with_reducible apply Lo.self1 | with_reducible apply Lo.self2)); done)); done))))); (· exact rfl); (· exact rfl); (· exact rfl))
          | (apply op_at; (· exact opD_eqb rfl rfl rfl rfl))
          | (apply op_at; (· exact opD_neqb rfl rfl rfl rfl))
          | (apply op_at; (· exact rfl))
          | (apply dwp_cond_t; (· exact rfl); (· (first | with_reducible assumption | with_reducible rfl | decide)))
          | (apply dwp_cond_f; (· exact rfl); (· (first | with_reducible assumption | with_reducible rfl | decide)))
          | (refine dwp_cond rfl ?_ ?_ <;> intro hb)
          | apply dwp_block
          | apply dwp_skip
          | apply dwp_ret
          | apply dwp_exit
          | (refine ⟨_, rfl, ?_⟩)
          | fail)
        rw [hw]
        exact ⟨⟨_, k + 1, _, _, _, _, _, _, _, _, junk_facts (⟨by omega, ht1, hh1, hp1⟩) rfl rfl⟩, hmes⟩
      · have hcp : decide ((k : Int) ≥ (np : Int)) = false := by simp only [decide_eq_false_iff_not]; omega
        obtain ⟨locp, ip, rop, rsp, b, rfl, hlocp, hop, hrp, hb0, hb1⟩ := hpp k (by omega)
        have hrp' : rsp[ip + ((k : Int)).toNat]? = some [.int .u8 b] := by rw [Int.toNat_natCast]; exact hrp
        have hin2 : 0 ≤ (k : Int) ∧ (k : Int) < (np : Int) := by omega
        obtain ⟨m, hm3, hmod⟩ : ∃ m : Nat, m < 3 ∧ b.tmod 3 = (m : Int) := by
          rw [Int.tmod_eq_emod_of_nonneg hb0]
          exact ⟨(b % 3).toNat, by omega, by omega⟩
        repeat' (first
          | dsimp only [putD, DV.cells, DH.new_next, DH.set_next, List.length_cons, List.length_nil, Nat.reduceAdd, List.set_cons_zero, List.set_cons_succ, getD_zero, getD_succ, fieldAt_zero, fieldAt_succ, thenD, blockD, retR]
          | apply dwp_seq
          | apply dwp_region
          | apply ops_nil
          | (apply ops_plain; (· exact rfl))
          | (apply ops_on; (· exact rfl); (· exact rfl); (· (first | with_reducible assumption | with_reducible rfl | decide)))
          | (apply ops_off1; (· exact rfl); (· exact rfl); (· (first | with_reducible assumption | with_reducible rfl | decide)))
          | (apply ops_off0; (· exact rfl); (· exact rfl); (· (first | with_reducible assumption | with_reducible rfl | decide)))
          | (apply ops_offn; (· exact rfl); (· exact rfl))
          | (apply ops_split1; (· exact rfl); (· exact rfl); all_goals intro hb)
          | (apply ops_split0; (· exact rfl); (· exact rfl); all_goals intro hb)
          | (apply op_call; (· exact rfl); (· exact rfl); (· exact rfl); refine (push_c x (⟨_, _, _, rfl, ht0.it⟩ : Its _ (.sl p6 h.length c6 e6) h) (by omega)).mono ?_; rintro r H1 ⟨ab1, s1, rfl, p1, c1, e1, rfl, it1, if1⟩; rw [hE]; have ht1 := ht0.next ab1 it1 if1; have hop1 := (ht1.ab).obj hlocp hop)
          | (apply op_pick_t; (· exact rfl); (· exact rfl); (· (first | with_reducible assumption | with_reducible rfl | decide)); (· exact rfl))
          | (apply op_pick_f; (· exact rfl); (· exact rfl); (· (first | with_reducible assumption | with_reducible rfl | decide)); (· exact rfl))
          | (apply op_index_at; (· exact rfl); (· exact rfl); (· exact rfl); (· with_reducible exact hin1); (· exact rfl); (· exact rfl))
          | (apply op_load_at; (· exact rfl); (· exact rfl); (· with_reducible exact ho0); (· with_reducible exact hr1); (· exact (item_part x)))
          | (apply op_load_at; (· exact rfl); (· exact rfl); (· repeat (first | with_reducible assumption | (with_reducible apply obj_here; with_reducible rfl) | with_reducible apply obj_set | (with_reducible apply obj_skip_lo; (· ((repeat (first | with_reducible assumption | with_reducible apply Lo.self | with_reducible apply Lo.new | with_reducible apply Lo.set | with_reducible apply Lo.self1 | with_reducible apply Lo.self2)); done))) | (with_reducible apply obj_past; (· ((first | with_reducible assumption | with_reducible apply ne_add1 | with_reducible apply ne_add1' | with_reducible apply ne_add2 | with_reducible apply ne_add2' | with_reducible apply ne_add12 | with_reducible apply ne_add21 | (with_reducible apply Lo.ne; (repeat (first | with_reducible assumption | with_reducible apply Lo.self | with_reducible apply Lo.new | with_reducible apply Lo.set | with_reducible apply Lo.self1 | with_reducible apply Lo.self2)); done) | (with_reducible apply Lo.ne1; (repeat (first | with_reducible assumption | with_reducible apply Lo.self | with_reducible apply Lo.new | with_reducible apply Lo.set | with_reducible apply Lo.self1 | with_reducible apply Lo.self2)); done) | (with_reducible apply Lo.ne'; (repeat (first | with_reducible assumption | with_reducible apply Lo.self | with_reducible apply Lo.new | with_reducible apply Lo.set | with_reducible apply Lo.self1 | with_reducible apply Lo.self2)); done) | (with_reducible apply Lo.ne1'; (repeat (first | with_reducible assumption | with_reducible apply Lo.self | with_reducible apply Lo.new | with_reducible apply Lo.set | with_reducible apply Lo.self1 | with_reducible apply Lo.self2)); done)); done))))); (· exact rfl); (· exact item_part x))
          | (apply op_index_at; (· exact rfl); (· exact rfl); (· exact rfl); (· with_reducible exact hin2); (· exact rfl); (· exact rfl))
          | (apply op_load_at; (· exact rfl); (· exact rfl); (· with_reducible exact hop1); (· with_reducible exact hrp'); (· exact rfl))
          | (apply op_at; (· exact opD_rem rfl rfl rfl (by decide) hmod))
          | (apply op_load_at; (· exact rfl); (· exact rfl); (· repeat (first | with_reducible assumption | (with_reducible apply obj_here; with_reducible rfl) | with_reducible apply obj_set | (with_reducible apply obj_skip_lo; (· ((repeat (first | with_reducible assumption | with_reducible apply Lo.self | with_reducible apply Lo.new | with_reducible apply Lo.set | with_reducible apply Lo.self1 | with_reducible apply Lo.self2)); done))) | (with_reducible apply obj_past; (· ((first | with_reducible assumption | with_reducible apply ne_add1 | with_reducible apply ne_add1' | with_reducible apply ne_add2 | with_reducible apply ne_add2' | with_reducible apply ne_add12 | with_reducible apply ne_add21 | (with_reducible apply Lo.ne; (repeat (first | with_reducible assumption | with_reducible apply Lo.self | with_reducible apply Lo.new | with_reducible apply Lo.set | with_reducible apply Lo.self1 | with_reducible apply Lo.self2)); done) | (with_reducible apply Lo.ne1; (repeat (first | with_reducible assumption | with_reducible apply Lo.self | with_reducible apply Lo.new | with_reducible apply Lo.set | with_reducible apply Lo.self1 | with_reducible apply Lo.self2)); done) | (with_reducible apply Lo.ne'; (repeat (first | with_reducible assumption | with_reducible apply Lo.self | with_reducible apply Lo.new | with_reducible apply Lo.set | with_reducible apply Lo.self1 | with_reducible apply Lo.self2)); done) | (with_reducible apply Lo.ne1'; (repeat (first | with_reducible assumption | with_reducible apply Lo.self | with_reducible apply Lo.new | with_reducible apply Lo.set | with_reducible apply Lo.self1 | with_reducible apply Lo.self2)); done)); done))))); (· exact rfl); (· exact rfl))
          | (apply op_store_at; (· exact rfl); (· exact rfl); (· exact rfl); (· repeat (first | with_reducible assumption | (with_reducible apply obj_here; with_reducible rfl) | with_reducible apply obj_set | (with_reducible apply obj_skip_lo; (· ((repeat (first | with_reducible assumption | with_reducible apply Lo.self | with_reducible apply Lo.new | with_reducible apply Lo.set | with_reducible apply Lo.self1 | with_reducible apply Lo.self2)); done))) | (with_reducible apply obj_past; (· ((first | with_reducible assumption | with_reducible apply ne_add1 | with_reducible apply ne_add1' | with_reducible apply ne_add2 | with_reducible apply ne_add2' | with_reducible apply ne_add12 | with_reducible apply ne_add21 | (with_reducible apply Lo.ne; (repeat (first | with_reducible assumption | with_reducible apply Lo.self | with_reducible apply Lo.new | with_reducible apply Lo.set | with_reducible apply Lo.self1 | with_reducible apply Lo.self2)); done) | (with_reducible apply Lo.ne1; (repeat (first | with_reducible assumption | with_reducible apply Lo.self | with_reducible apply Lo.new | with_reducible apply Lo.set | with_reducible apply Lo.self1 | with_reducible apply Lo.self2)); done) | (with_reducible apply Lo.ne'; (repeat (first | with_reducible assumption | with_reducible apply Lo.self | with_reducible apply Lo.new | with_reducible apply Lo.set | with_reducible apply Lo.self1 | with_reducible apply Lo.self2)); done) | (with_reducible apply Lo.ne1'; (repeat (first | with_reducible assumption | with_reducible apply Lo.self | with_reducible apply Lo.new | with_reducible apply Lo.set | with_reducible apply Lo.self1 | with_reducible apply Lo.self2)); done)); done))))); (· exact rfl); (· exact rfl); (· exact rfl))
          | (apply op_at; (· exact opD_eqb rfl rfl rfl rfl))
          | (apply op_at; (· exact opD_neqb rfl rfl rfl rfl))
          | (apply op_at; (· exact rfl))
          | (apply dwp_cond_t; (· exact rfl); (· (first | with_reducible assumption | with_reducible rfl | decide)))
          | (apply dwp_cond_f; (· exact rfl); (· (first | with_reducible assumption | with_reducible rfl | decide)))
          | (refine dwp_cond rfl ?_ ?_ <;> intro hb)
          | apply dwp_block
          | apply dwp_skip
          | apply dwp_ret
          | apply dwp_exit
          | (refine ⟨_, rfl, ?_⟩)
          | fail)
        refine dwp_loop (fun st => ∃ (Hj : DH) (j : Nat) (p6 : Option (Nat × Nat × Nat)) (c6 : Nat) (e6 : Bool) (h : List Item) (p7 : Option (Nat × Nat × Nat)) (c7 : Nat) (e7 : Bool) (out : List Item), ∃ J : Nat → DV, (j ≤ m ∧ Two H Hj p6 c6 e6 h p7 c7 e7 out ∧ Heap h ∧ List.Perm (out ++ h) (l.take (k + 1))) ∧ st = ⟨(.sl (some (loc, i0, 6)) l.length c ex :: .sl (some (locp, ip, 1)) np cp ep :: J 2 :: J 3 :: J 4 :: .bool true :: .sl p6 h.length c6 e6 :: .sl p7 out.length c7 e7 :: .int .i64 (k : Int) :: J 9 :: J 10 :: J 11 :: J 12 :: J 13 :: J 14 :: J 15 :: J 16 :: J 17 :: J 18 :: J 19 :: J 20 :: J 21 :: J 22 :: J 23 :: J 24 :: J 25 :: J 26 :: J 27 :: .sl (some (loc, i0, 6)) l.length c ex :: .int .i64 l.length :: .int .i64 (k : Int) :: J 31 :: J 32 :: J 33 :: J 34 :: J 35 :: J 36 :: J 37 :: J 38 :: J 39 :: J 40 :: J 41 :: J 42 :: J 43 :: J 44 :: J 45 :: J 46 :: J 47 :: J 48 :: J 49 :: J 50 :: J 51 :: .int .u8 (m : Int) :: .int .u8 (j : Int) :: J 54 :: J 55 :: J 56 :: J 57 :: J 58 :: J 59 :: J 60 :: J 61 :: J 62 :: J 63 :: J 64 :: J 65 :: J 66 :: J 67 :: J 68 :: J 69 :: J 70 :: J 71 :: J 72 :: J 73 :: J 74 :: J 75 :: J 76 :: J 77 :: J 78 :: J 79 :: J 80 :: J 81 :: J 82 :: J 83 :: J 84 :: J 85 :: J 86 :: J 87 :: J 88 :: J 89 :: J 90 :: J 91 :: J 92 :: J 93 :: J 94 :: J 95 :: J 96 :: J 97 :: J 98 :: J 99 :: J 100 :: J 101 :: J 102 :: J 103 :: J 104 :: J 105 :: J 106 :: J 107 :: J 108 :: J 109 :: J 110 :: J 111 :: J 112 :: J 113 :: J 114 :: J 115 :: J 116 :: J 117 :: J 118 :: J 119 :: J 120 :: J 121 :: J 122 :: J 123 :: J 124 :: J 125 :: J 126 :: J 127 :: J 128 :: J 129 :: J 130 :: J 131 :: J 132 :: J 133 :: J 134 :: []), Hj⟩) (fun st => m - kOf st 53) (⟨_, 0, _, _, _, _, _, _, _, _, junk_facts (⟨Nat.zero_le _, ht1, hh1, hp1⟩) rfl rfl⟩) ?_
        rintro st ⟨Hj, j, q6, d6, f6, hb, q7, d7, f7, ob, J, ⟨hjm, htj, hhj, hpj⟩, rfl⟩
        have hlj := hpj.length_eq
        rw [List.length_append, List.length_take] at hlj
        by_cases hj : j < m
        · have hcj : decide ((j : Int) < (m : Int)) = true := by simp [hj]
          have hwj : DV.int .u8 (IntKind.u8.wrap ((j : Int) + 1)) = .int .u8 ((j + 1 : Nat) : Int) := by
            congr 1
            unfold IntKind.wrap
            simp [IntKind.signed, IntKind.bits]
            omega
          have hmj : m - ((j + 1 : Nat) : Int).toNat < m - (j : Int).toNat := by omega
          by_cases he : hb = []
          · subst he
            have hE8 : popE [] = 8 := popE_none rfl rfl
            repeat' (first
              | dsimp only [putD, DV.cells, DH.new_next, DH.set_next, List.length_cons, List.length_nil, Nat.reduceAdd, List.set_cons_zero, List.set_cons_succ, getD_zero, getD_succ, fieldAt_zero, fieldAt_succ, thenD, blockD, retR]
              | apply dwp_seq
              | apply dwp_region
              | apply ops_nil
              | (apply ops_plain; (· exact rfl))
              | (apply ops_on; (· exact rfl); (· exact rfl); (· (first | with_reducible assumption | with_reducible rfl | decide)))
              | (apply ops_off1; (· exact rfl); (· exact rfl); (· (first | with_reducible assumption | with_reducible rfl | decide)))
              | (apply ops_off0; (· exact rfl); (· exact rfl); (· (first | with_reducible assumption | with_reducible rfl | decide)))
              | (apply ops_offn; (· exact rfl); (· exact rfl))
              | (apply ops_split1; (· exact rfl); (· exact rfl); all_goals intro hb)
              | (apply ops_split0; (· exact rfl); (· exact rfl); all_goals intro hb)
              | (apply op_call; (· exact rfl); (· exact rfl); (· exact rfl); refine (pop_c (⟨_, _, _, rfl, htj.it⟩ : Its _ (.sl q6 ([] : List Item).length d6 f6) []) (by omega)).mono ?_; rintro r H2 ⟨ab2, s2, rfl, i2⟩; rw [hE8]; have htj' := fun o o' => htj.mono (hup (H1 := H2) (o := o) (o' := o') ab2))
              | (apply op_pick_t; (· exact rfl); (· exact rfl); (· (first | with_reducible assumption | with_reducible rfl | decide)); (· exact rfl))
              | (apply op_pick_f; (· exact rfl); (· exact rfl); (· (first | with_reducible assumption | with_reducible rfl | decide)); (· exact rfl))
              | (apply op_load_at; (· exact rfl); (· exact rfl); (· repeat (first | with_reducible assumption | (with_reducible apply obj_here; with_reducible rfl) | with_reducible apply obj_set | (with_reducible apply obj_skip_lo; (· ((repeat (first | with_reducible assumption | with_reducible apply Lo.self | with_reducible apply Lo.new | with_reducible apply Lo.set | with_reducible apply Lo.self1 | with_reducible apply Lo.self2)); done))) | (with_reducible apply obj_past; (· ((first | with_reducible assumption | with_reducible apply ne_add1 | with_reducible apply ne_add1' | with_reducible apply ne_add2 | with_reducible apply ne_add2' | with_reducible apply ne_add12 | with_reducible apply ne_add21 | (with_reducible apply Lo.ne; (repeat (first | with_reducible assumption | with_reducible apply Lo.self | with_reducible apply Lo.new | with_reducible apply Lo.set | with_reducible apply Lo.self1 | with_reducible apply Lo.self2)); done) | (with_reducible apply Lo.ne1; (repeat (first | with_reducible assumption | with_reducible apply Lo.self | with_reducible apply Lo.new | with_reducible apply Lo.set | with_reducible apply Lo.self1 | with_reducible apply Lo.self2)); done) | (with_reducible apply Lo.ne'; (repeat (first | with_reducible assumption | with_reducible apply Lo.self | with_reducible apply Lo.new | with_reducible apply Lo.set | with_reducible apply Lo.self1 | with_reducible apply Lo.self2)); done) | (with_reducible apply Lo.ne1'; (repeat (first | with_reducible assumption | with_reducible apply Lo.self | with_reducible apply Lo.new | with_reducible apply Lo.set | with_reducible apply Lo.self1 | with_reducible apply Lo.self2)); done)); done))))); (· exact rfl); (· exact rfl))
              | (apply op_store_at; (· exact rfl); (· exact rfl); (· exact rfl); (· repeat (first | with_reducible assumption | (with_reducible apply obj_here; with_reducible rfl) | with_reducible apply obj_set | (with_reducible apply obj_skip_lo; (· ((repeat (first | with_reducible assumption | with_reducible apply Lo.self | with_reducible apply Lo.new | with_reducible apply Lo.set | with_reducible apply Lo.self1 | with_reducible apply Lo.self2)); done))) | (with_reducible apply obj_past; (· ((first | with_reducible assumption | with_reducible apply ne_add1 | with_reducible apply ne_add1' | with_reducible apply ne_add2 | with_reducible apply ne_add2' | with_reducible apply ne_add12 | with_reducible apply ne_add21 | (with_reducible apply Lo.ne; (repeat (first | with_reducible assumption | with_reducible apply Lo.self | with_reducible apply Lo.new | with_reducible apply Lo.set | with_reducible apply Lo.self1 | with_reducible apply Lo.self2)); done) | (with_reducible apply Lo.ne1; (repeat (first | with_reducible assumption | with_reducible apply Lo.self | with_reducible apply Lo.new | with_reducible apply Lo.set | with_reducible apply Lo.self1 | with_reducible apply Lo.self2)); done) | (with_reducible apply Lo.ne'; (repeat (first | with_reducible assumption | with_reducible apply Lo.self | with_reducible apply Lo.new | with_reducible apply Lo.set | with_reducible apply Lo.self1 | with_reducible apply Lo.self2)); done) | (with_reducible apply Lo.ne1'; (repeat (first | with_reducible assumption | with_reducible apply Lo.self | with_reducible apply Lo.new | with_reducible apply Lo.set | with_reducible apply Lo.self1 | with_reducible apply Lo.self2)); done)); done))))); (· exact rfl); (· exact rfl); (· exact rfl))
              | (apply op_at; (· exact opD_eqb rfl rfl rfl rfl))
              | (apply op_at; (· exact opD_neqb rfl rfl rfl rfl))
              | (apply op_at; (· exact rfl))
              | (apply dwp_cond_t; (· exact rfl); (· (first | with_reducible assumption | with_reducible rfl | decide)))
              | (apply dwp_cond_f; (· exact rfl); (· (first | with_reducible assumption | with_reducible rfl | decide)))
              | (refine dwp_cond rfl ?_ ?_ <;> intro hb)
              | apply dwp_block
              | apply dwp_skip
              | apply dwp_ret
              | apply dwp_exit
              | (refine ⟨_, rfl, ?_⟩)
              | fail)
            rw [hw]
            exact ⟨⟨_, k + 1, _, _, _, _, _, _, _, _, junk_facts (⟨by omega, htj' _ _, hhj, hpj⟩) rfl rfl⟩, hmes⟩
          · have hE0 : popE hb = 0 := popE_ok (checkB_heap.mpr ⟨hhj, by omega⟩) he
            have hz0 : ((hb.length : Int) == 0) = false := by
              have := List.length_pos_iff.mpr he
              simp only [beq_eq_false_iff_ne]; omega
            have hpl2 := popV_len hE0
            have hmem := popV_mem hE0
            repeat' (first
              | dsimp only [putD, DV.cells, DH.new_next, DH.set_next, List.length_cons, List.length_nil, Nat.reduceAdd, List.set_cons_zero, List.set_cons_succ, getD_zero, getD_succ, fieldAt_zero, fieldAt_succ, thenD, blockD, retR]
              | apply dwp_seq
              | apply dwp_region
              | apply ops_nil
              | (apply ops_plain; (· exact rfl))
              | (apply ops_on; (· exact rfl); (· exact rfl); (· (first | with_reducible assumption | with_reducible rfl | decide)))
              | (apply ops_off1; (· exact rfl); (· exact rfl); (· (first | with_reducible assumption | with_reducible rfl | decide)))
              | (apply ops_off0; (· exact rfl); (· exact rfl); (· (first | with_reducible assumption | with_reducible rfl | decide)))
              | (apply ops_offn; (· exact rfl); (· exact rfl))
              | (apply ops_split1; (· exact rfl); (· exact rfl); all_goals intro hb)
              | (apply ops_split0; (· exact rfl); (· exact rfl); all_goals intro hb)
              | (apply op_call; (· exact rfl); (· exact rfl); (· exact rfl); refine (pop_c (⟨_, _, _, rfl, htj.it⟩ : Its _ (.sl q6 hb.length d6 f6) hb) (by omega)).mono ?_; rintro r H2 ⟨ab2, s2, rfl, i2⟩; rw [hE0]; obtain ⟨p2, c2, e2, rfl, it2, if2⟩ := i2; have aaj : ∀ {o o'}, Above Hj ((H2.new o).set H2.next o') := fun {o o'} => hup ab2; have aa2 : ∀ {o o'}, Above H2 ((H2.new o).set H2.next o') := fun {o o'} => hup (Above.refl _))
              | (apply op_pick_t; (· exact rfl); (· exact rfl); (· (first | with_reducible assumption | with_reducible rfl | decide)); (· exact rfl))
              | (apply op_pick_f; (· exact rfl); (· exact rfl); (· (first | with_reducible assumption | with_reducible rfl | decide)); (· exact rfl))
              | (apply op_load_at; (· exact rfl); (· exact rfl); (· repeat (first | with_reducible assumption | (with_reducible apply obj_here; with_reducible rfl) | with_reducible apply obj_set | (with_reducible apply obj_skip_lo; (· ((repeat (first | with_reducible assumption | with_reducible apply Lo.self | with_reducible apply Lo.new | with_reducible apply Lo.set | with_reducible apply Lo.self1 | with_reducible apply Lo.self2)); done))) | (with_reducible apply obj_past; (· ((first | with_reducible assumption | with_reducible apply ne_add1 | with_reducible apply ne_add1' | with_reducible apply ne_add2 | with_reducible apply ne_add2' | with_reducible apply ne_add12 | with_reducible apply ne_add21 | (with_reducible apply Lo.ne; (repeat (first | with_reducible assumption | with_reducible apply Lo.self | with_reducible apply Lo.new | with_reducible apply Lo.set | with_reducible apply Lo.self1 | with_reducible apply Lo.self2)); done) | (with_reducible apply Lo.ne1; (repeat (first | with_reducible assumption | with_reducible apply Lo.self | with_reducible apply Lo.new | with_reducible apply Lo.set | with_reducible apply Lo.self1 | with_reducible apply Lo.self2)); done) | (with_reducible apply Lo.ne'; (repeat (first | with_reducible assumption | with_reducible apply Lo.self | with_reducible apply Lo.new | with_reducible apply Lo.set | with_reducible apply Lo.self1 | with_reducible apply Lo.self2)); done) | (with_reducible apply Lo.ne1'; (repeat (first | with_reducible assumption | with_reducible apply Lo.self | with_reducible apply Lo.new | with_reducible apply Lo.set | with_reducible apply Lo.self1 | with_reducible apply Lo.self2)); done)); done))))); (· exact rfl); (· exact rfl))
              | (apply op_store_at; (· exact rfl); (· exact rfl); (· exact rfl); (· repeat (first | with_reducible assumption | (with_reducible apply obj_here; with_reducible rfl) | with_reducible apply obj_set | (with_reducible apply obj_skip_lo; (· ((repeat (first | with_reducible assumption | with_reducible apply Lo.self | with_reducible apply Lo.new | with_reducible apply Lo.set | with_reducible apply Lo.self1 | with_reducible apply Lo.self2)); done))) | (with_reducible apply obj_past; (· ((first | with_reducible assumption | with_reducible apply ne_add1 | with_reducible apply ne_add1' | with_reducible apply ne_add2 | with_reducible apply ne_add2' | with_reducible apply ne_add12 | with_reducible apply ne_add21 | (with_reducible apply Lo.ne; (repeat (first | with_reducible assumption | with_reducible apply Lo.self | with_reducible apply Lo.new | with_reducible apply Lo.set | with_reducible apply Lo.self1 | with_reducible apply Lo.self2)); done) | (with_reducible apply Lo.ne1; (repeat (first | with_reducible assumption | with_reducible apply Lo.self | with_reducible apply Lo.new | with_reducible apply Lo.set | with_reducible apply Lo.self1 | with_reducible apply Lo.self2)); done) | (with_reducible apply Lo.ne'; (repeat (first | with_reducible assumption | with_reducible apply Lo.self | with_reducible apply Lo.new | with_reducible apply Lo.set | with_reducible apply Lo.self1 | with_reducible apply Lo.self2)); done) | (with_reducible apply Lo.ne1'; (repeat (first | with_reducible assumption | with_reducible apply Lo.self | with_reducible apply Lo.new | with_reducible apply Lo.set | with_reducible apply Lo.self1 | with_reducible apply Lo.self2)); done)); done))))); (· exact rfl); (· exact rfl); (· exact rfl))
              | (apply op_at; (· exact opD_eqb rfl rfl rfl rfl))
              | (apply op_at; (· exact opD_neqb rfl rfl rfl rfl))
              | (apply op_at; (· exact rfl))
              | (apply dwp_cond_t; (· exact rfl); (· (first | with_reducible assumption | with_reducible rfl | decide)))
              | (apply dwp_cond_f; (· exact rfl); (· (first | with_reducible assumption | with_reducible rfl | decide)))
              | (refine dwp_cond rfl ?_ ?_ <;> intro hb)
              | apply dwp_block
              | apply dwp_skip
              | apply dwp_ret
              | apply dwp_exit
              | (refine ⟨_, rfl, ?_⟩)
              | fail)
            refine dwp_loop (fun st => ∃ (Hc : DH) (i : Nat), ∃ J : Nat → DV, (i ≤ (popV hb).length ∧ Above Hj Hc ∧ Above H2 Hc ∧ Hc.obj H2.next = some (.rows false 6 [(popX hb).cells]) ∧ Lo Hc H2.next) ∧ st = ⟨(.sl (some (loc, i0, 6)) l.length c ex :: .sl (some (locp, ip, 1)) np cp ep :: J 2 :: J 3 :: J 4 :: .bool true :: J 6 :: .sl q7 ob.length d7 f7 :: .int .i64 (k : Int) :: J 9 :: J 10 :: J 11 :: .ptr (some (H2.next, 0, 0)) :: .sl p2 (popV hb).length c2 e2 :: J 14 :: J 15 :: J 16 :: J 17 :: J 18 :: J 19 :: J 20 :: J 21 :: J 22 :: J 23 :: J 24 :: J 25 :: J 26 :: J 27 :: .sl (some (loc, i0, 6)) l.length c ex :: .int .i64 l.length :: .int .i64 (k : Int) :: J 31 :: J 32 :: J 33 :: J 34 :: J 35 :: J 36 :: J 37 :: J 38 :: J 39 :: J 40 :: J 41 :: J 42 :: J 43 :: J 44 :: J 45 :: J 46 :: J 47 :: J 48 :: J 49 :: J 50 :: J 51 :: .int .u8 (m : Int) :: .int .u8 (j : Int) :: J 54 :: J 55 :: J 56 :: J 57 :: J 58 :: J 59 :: J 60 :: J 61 :: J 62 :: J 63 :: J 64 :: J 65 :: J 66 :: J 67 :: .sl p2 (popV hb).length c2 e2 :: .int .i64 (popV hb).length :: .int .i64 (i : Int) :: J 71 :: J 72 :: J 73 :: J 74 :: J 75 :: J 76 :: J 77 :: J 78 :: J 79 :: J 80 :: J 81 :: J 82 :: J 83 :: J 84 :: J 85 :: J 86 :: J 87 :: J 88 :: J 89 :: J 90 :: J 91 :: J 92 :: J 93 :: J 94 :: J 95 :: J 96 :: J 97 :: J 98 :: J 99 :: J 100 :: J 101 :: J 102 :: J 103 :: J 104 :: J 105 :: J 106 :: J 107 :: J 108 :: J 109 :: J 110 :: J 111 :: J 112 :: J 113 :: J 114 :: J 115 :: J 116 :: J 117 :: J 118 :: J 119 :: J 120 :: J 121 :: J 122 :: J 123 :: J 124 :: J 125 :: J 126 :: J 127 :: J 128 :: J 129 :: J 130 :: J 131 :: J 132 :: J 133 :: J 134 :: []), Hc⟩) (fun st => (popV hb).length - kOf st 70) (⟨_, 0, junk_facts (⟨Nat.zero_le _, aaj, aa2, obj_set, lo (Nat.lt_succ_self _)⟩) rfl rfl⟩) ?_
            rintro st ⟨Hc, i, J, ⟨hi, abj, abc, hbx, hlx⟩, rfl⟩
            by_cases hil : i < (popV hb).length
            · obtain ⟨z, hz⟩ : ∃ z, (popV hb)[i]? = some z := ⟨(popV hb)[i], List.getElem?_eq_getElem hil⟩
              have hzl := hmem z (List.mem_of_getElem? hz)
              obtain ⟨loc2, i2, ro2, rs2, rfl, hloc2, ho2, hr2⟩ := it2.rd hz
              have ho2' := abc.obj hloc2 ho2
              have hr2' : rs2[i2 + ((i : Int)).toNat]? = some z.cells := by rw [Int.toNat_natCast]; exact hr2
              have hci : decide ((i : Int) < ((popV hb).length : Int)) = true := by simp [hil]
              have hin3 : 0 ≤ (i : Int) ∧ (i : Int) < ((popV hb).length : Int) := by omega
              have hwi := wrapNat (k := i) (by omega)
              repeat' (first
                | dsimp only [putD, DV.cells, DH.new_next, DH.set_next, List.length_cons, List.length_nil, Nat.reduceAdd, List.set_cons_zero, List.set_cons_succ, getD_zero, getD_succ, fieldAt_zero, fieldAt_succ, thenD, blockD, retR]
                | apply dwp_seq
                | apply dwp_region
                | apply ops_nil
                | (apply ops_plain; (· exact rfl))
                | (apply ops_on; (· exact rfl); (· exact rfl); (· (first | with_reducible assumption | with_reducible rfl | decide)))
                | (apply ops_off1; (· exact rfl); (· exact rfl); (· (first | with_reducible assumption | with_reducible rfl | decide)))
                | (apply ops_off0; (· exact rfl); (· exact rfl); (· (first | with_reducible assumption | with_reducible rfl | decide)))
                | (apply ops_offn; (· exact rfl); (· exact rfl))
                | (apply ops_split1; (· exact rfl); (· exact rfl); all_goals intro hb)
                | (apply ops_split0; (· exact rfl); (· exact rfl); all_goals intro hb)
                | (apply op_call; (· exact rfl); (· exact rfl); (· exact rfl); refine rless_call4 ?_; rw [hzl])
                | (apply op_pick_t; (· exact rfl); (· exact rfl); (· (first | with_reducible assumption | with_reducible rfl | decide)); (· exact rfl))
                | (apply op_pick_f; (· exact rfl); (· exact rfl); (· (first | with_reducible assumption | with_reducible rfl | decide)); (· exact rfl))
                | (apply op_index_at; (· exact rfl); (· exact rfl); (· exact rfl); (· with_reducible exact hin3); (· exact rfl); (· exact rfl))
                | (apply op_load_at; (· exact rfl); (· exact rfl); (· with_reducible exact ho2'); (· with_reducible exact hr2'); (· exact (item_part z)))
                | (apply op_load_at; (· exact rfl); (· exact rfl); (· repeat (first | with_reducible assumption | (with_reducible apply obj_here; with_reducible rfl) | with_reducible apply obj_set | (with_reducible apply obj_skip_lo; (· ((repeat (first | with_reducible assumption | with_reducible apply Lo.self | with_reducible apply Lo.new | with_reducible apply Lo.set | with_reducible apply Lo.self1 | with_reducible apply Lo.self2)); done))) | (with_reducible apply obj_past; (· ((first | with_reducible assumption | with_reducible apply ne_add1 | with_reducible apply ne_add1' | with_reducible apply ne_add2 | with_reducible apply ne_add2' | with_reducible apply ne_add12 | with_reducible apply ne_add21 | (with_reducible apply Lo.ne; (repeat (first | with_reducible assumption | with_reducible apply Lo.self | with_reducible apply Lo.new | with_reducible apply Lo.set | with_reducible apply Lo.self1 | with_reducible apply Lo.self2)); done) | (with_reducible apply Lo.ne1; (repeat (first | with_reducible assumption | with_reducible apply Lo.self | with_reducible apply Lo.new | with_reducible apply Lo.set | with_reducible apply Lo.self1 | with_reducible apply Lo.self2)); done) | (with_reducible apply Lo.ne'; (repeat (first | with_reducible assumption | with_reducible apply Lo.self | with_reducible apply Lo.new | with_reducible apply Lo.set | with_reducible apply Lo.self1 | with_reducible apply Lo.self2)); done) | (with_reducible apply Lo.ne1'; (repeat (first | with_reducible assumption | with_reducible apply Lo.self | with_reducible apply Lo.new | with_reducible apply Lo.set | with_reducible apply Lo.self1 | with_reducible apply Lo.self2)); done)); done))))); (· exact rfl); (· exact item_part z))
                | (apply op_load_at; (· exact rfl); (· exact rfl); (· repeat (first | with_reducible assumption | (with_reducible apply obj_here; with_reducible rfl) | with_reducible apply obj_set | (with_reducible apply obj_skip_lo; (· ((repeat (first | with_reducible assumption | with_reducible apply Lo.self | with_reducible apply Lo.new | with_reducible apply Lo.set | with_reducible apply Lo.self1 | with_reducible apply Lo.self2)); done))) | (with_reducible apply obj_past; (· ((first | with_reducible assumption | with_reducible apply ne_add1 | with_reducible apply ne_add1' | with_reducible apply ne_add2 | with_reducible apply ne_add2' | with_reducible apply ne_add12 | with_reducible apply ne_add21 | (with_reducible apply Lo.ne; (repeat (first | with_reducible assumption | with_reducible apply Lo.self | with_reducible apply Lo.new | with_reducible apply Lo.set | with_reducible apply Lo.self1 | with_reducible apply Lo.self2)); done) | (with_reducible apply Lo.ne1; (repeat (first | with_reducible assumption | with_reducible apply Lo.self | with_reducible apply Lo.new | with_reducible apply Lo.set | with_reducible apply Lo.self1 | with_reducible apply Lo.self2)); done) | (with_reducible apply Lo.ne'; (repeat (first | with_reducible assumption | with_reducible apply Lo.self | with_reducible apply Lo.new | with_reducible apply Lo.set | with_reducible apply Lo.self1 | with_reducible apply Lo.self2)); done) | (with_reducible apply Lo.ne1'; (repeat (first | with_reducible assumption | with_reducible apply Lo.self | with_reducible apply Lo.new | with_reducible apply Lo.set | with_reducible apply Lo.self1 | with_reducible apply Lo.self2)); done)); done))))); (· exact rfl); (· exact item_part (popX hb)))
                | (apply op_load_at; (· exact rfl); (· exact rfl); (· repeat (first | with_reducible assumption | (with_reducible apply obj_here; with_reducible rfl) | with_reducible apply obj_set | (with_reducible apply obj_skip_lo; (· ((repeat (first | with_reducible assumption | with_reducible apply Lo.self | with_reducible apply Lo.new | with_reducible apply Lo.set | with_reducible apply Lo.self1 | with_reducible apply Lo.self2)); done))) | (with_reducible apply obj_past; (· ((first | with_reducible assumption | with_reducible apply ne_add1 | with_reducible apply ne_add1' | with_reducible apply ne_add2 | with_reducible apply ne_add2' | with_reducible apply ne_add12 | with_reducible apply ne_add21 | (with_reducible apply Lo.ne; (repeat (first | with_reducible assumption | with_reducible apply Lo.self | with_reducible apply Lo.new | with_reducible apply Lo.set | with_reducible apply Lo.self1 | with_reducible apply Lo.self2)); done) | (with_reducible apply Lo.ne1; (repeat (first | with_reducible assumption | with_reducible apply Lo.self | with_reducible apply Lo.new | with_reducible apply Lo.set | with_reducible apply Lo.self1 | with_reducible apply Lo.self2)); done) | (with_reducible apply Lo.ne'; (repeat (first | with_reducible assumption | with_reducible apply Lo.self | with_reducible apply Lo.new | with_reducible apply Lo.set | with_reducible apply Lo.self1 | with_reducible apply Lo.self2)); done) | (with_reducible apply Lo.ne1'; (repeat (first | with_reducible assumption | with_reducible apply Lo.self | with_reducible apply Lo.new | with_reducible apply Lo.set | with_reducible apply Lo.self1 | with_reducible apply Lo.self2)); done)); done))))); (· exact rfl); (· exact rfl))
                | (apply op_store_at; (· exact rfl); (· exact rfl); (· exact rfl); (· repeat (first | with_reducible assumption | (with_reducible apply obj_here; with_reducible rfl) | with_reducible apply obj_set | (with_reducible apply obj_skip_lo; (· ((repeat (first | with_reducible assumption | with_reducible apply Lo.self | with_reducible apply Lo.new | with_reducible apply Lo.set | with_reducible apply Lo.self1 | with_reducible apply Lo.self2)); done))) | (with_reducible apply obj_past; (· ((first | with_reducible assumption | with_reducible apply ne_add1 | with_reducible apply ne_add1' | with_reducible apply ne_add2 | with_reducible apply ne_add2' | with_reducible apply ne_add12 | with_reducible apply ne_add21 | (with_reducible apply Lo.ne; (repeat (first | with_reducible assumption | with_reducible apply Lo.self | with_reducible apply Lo.new | with_reducible apply Lo.set | with_reducible apply Lo.self1 | with_reducible apply Lo.self2)); done) | (with_reducible apply Lo.ne1; (repeat (first | with_reducible assumption | with_reducible apply Lo.self | with_reducible apply Lo.new | with_reducible apply Lo.set | with_reducible apply Lo.self1 | with_reducible apply Lo.self2)); done) | (with_reducible apply Lo.ne'; (repeat (first | with_reducible assumption | with_reducible apply Lo.self | with_reducible apply Lo.new | with_reducible apply Lo.set | with_reducible apply Lo.self1 | with_reducible apply Lo.self2)); done) | (with_reducible apply Lo.ne1'; (repeat (first | with_reducible assumption | with_reducible apply Lo.self | with_reducible apply Lo.new | with_reducible apply Lo.set | with_reducible apply Lo.self1 | with_reducible apply Lo.self2)); done)); done))))); (· exact rfl); (· exact rfl); (· exact rfl))
                | (apply op_at; (· exact opD_eqb rfl rfl rfl rfl))
                | (apply op_at; (· exact opD_neqb rfl rfl rfl rfl))
                | (apply op_at; (· exact rfl))
                | (apply dwp_cond_t; (· exact rfl); (· (first | with_reducible assumption | with_reducible rfl | decide)))
                | (apply dwp_cond_f; (· exact rfl); (· (first | with_reducible assumption | with_reducible rfl | decide)))
                | (refine dwp_cond rfl ?_ ?_ <;> intro hb)
                | apply dwp_block
                | apply dwp_skip
                | apply dwp_ret
                | apply dwp_exit
                | (refine ⟨_, rfl, ?_⟩)
                | fail)
              rw [hwi]
              refine ⟨⟨_, i + 1, junk_facts (⟨by omega, hup abj, hup abc, obj_past (hlx.ne) (obj_skip hlx.ne hbx), hlx.new.set⟩) rfl rfl⟩, ?_⟩
              show (popV hb).length - ((i + 1 : Nat) : Int).toNat < (popV hb).length - (i : Int).toNat
              omega
            · have hci : decide ((i : Int) < ((popV hb).length : Int)) = false := by simp; omega
              have htc := htj.next abj (it2.mono abc) if2
              have hpn : List.Perm (ob ++ [popX hb] ++ popV hb) (l.take (k + 1)) := by
                rw [List.append_assoc]
                exact ((popV_perm hE0).symm.append_left ob).trans hpj
              repeat' (first
                | dsimp only [putD, DV.cells, DH.new_next, DH.set_next, List.length_cons, List.length_nil, Nat.reduceAdd, List.set_cons_zero, List.set_cons_succ, getD_zero, getD_succ, fieldAt_zero, fieldAt_succ, thenD, blockD, retR]
                | apply dwp_seq
                | apply dwp_region
                | apply ops_nil
                | (apply ops_plain; (· exact rfl))
                | (apply ops_on; (· exact rfl); (· exact rfl); (· (first | with_reducible assumption | with_reducible rfl | decide)))
                | (apply ops_off1; (· exact rfl); (· exact rfl); (· (first | with_reducible assumption | with_reducible rfl | decide)))
                | (apply ops_off0; (· exact rfl); (· exact rfl); (· (first | with_reducible assumption | with_reducible rfl | decide)))
                | (apply ops_offn; (· exact rfl); (· exact rfl))
                | (apply ops_split1; (· exact rfl); (· exact rfl); all_goals intro hb)
                | (apply ops_split0; (· exact rfl); (· exact rfl); all_goals intro hb)
                | (apply op_pick_t; (· exact rfl); (· exact rfl); (· (first | with_reducible assumption | with_reducible rfl | decide)); (· exact rfl))
                | (apply op_pick_f; (· exact rfl); (· exact rfl); (· (first | with_reducible assumption | with_reducible rfl | decide)); (· exact rfl))
                | (refine op_out rfl rfl rfl (obj_here rfl) (Nat.lt_succ_self _) (htc.mono ((Above.refl _).new _)) (by omega) ?_; intro p8 c8 e8 H8 ht8 hk8 hle8)
                | (apply op_told; (· exact rfl); (· exact hwj))
                | (apply op_load_at; (· exact rfl); (· exact rfl); (· repeat (first | with_reducible assumption | (with_reducible apply obj_here; with_reducible rfl) | with_reducible apply obj_set | (with_reducible apply obj_skip_lo; (· ((repeat (first | with_reducible assumption | with_reducible apply Lo.self | with_reducible apply Lo.new | with_reducible apply Lo.set | with_reducible apply Lo.self1 | with_reducible apply Lo.self2)); done))) | (with_reducible apply obj_past; (· ((first | with_reducible assumption | with_reducible apply ne_add1 | with_reducible apply ne_add1' | with_reducible apply ne_add2 | with_reducible apply ne_add2' | with_reducible apply ne_add12 | with_reducible apply ne_add21 | (with_reducible apply Lo.ne; (repeat (first | with_reducible assumption | with_reducible apply Lo.self | with_reducible apply Lo.new | with_reducible apply Lo.set | with_reducible apply Lo.self1 | with_reducible apply Lo.self2)); done) | (with_reducible apply Lo.ne1; (repeat (first | with_reducible assumption | with_reducible apply Lo.self | with_reducible apply Lo.new | with_reducible apply Lo.set | with_reducible apply Lo.self1 | with_reducible apply Lo.self2)); done) | (with_reducible apply Lo.ne'; (repeat (first | with_reducible assumption | with_reducible apply Lo.self | with_reducible apply Lo.new | with_reducible apply Lo.set | with_reducible apply Lo.self1 | with_reducible apply Lo.self2)); done) | (with_reducible apply Lo.ne1'; (repeat (first | with_reducible assumption | with_reducible apply Lo.self | with_reducible apply Lo.new | with_reducible apply Lo.set | with_reducible apply Lo.self1 | with_reducible apply Lo.self2)); done)); done))))); (· exact rfl); (· exact item_part (popX hb)))
                | (apply op_load_at; (· exact rfl); (· exact rfl); (· repeat (first | with_reducible assumption | (with_reducible apply obj_here; with_reducible rfl) | with_reducible apply obj_set | (with_reducible apply obj_skip_lo; (· ((repeat (first | with_reducible assumption | with_reducible apply Lo.self | with_reducible apply Lo.new | with_reducible apply Lo.set | with_reducible apply Lo.self1 | with_reducible apply Lo.self2)); done))) | (with_reducible apply obj_past; (· ((first | with_reducible assumption | with_reducible apply ne_add1 | with_reducible apply ne_add1' | with_reducible apply ne_add2 | with_reducible apply ne_add2' | with_reducible apply ne_add12 | with_reducible apply ne_add21 | (with_reducible apply Lo.ne; (repeat (first | with_reducible assumption | with_reducible apply Lo.self | with_reducible apply Lo.new | with_reducible apply Lo.set | with_reducible apply Lo.self1 | with_reducible apply Lo.self2)); done) | (with_reducible apply Lo.ne1; (repeat (first | with_reducible assumption | with_reducible apply Lo.self | with_reducible apply Lo.new | with_reducible apply Lo.set | with_reducible apply Lo.self1 | with_reducible apply Lo.self2)); done) | (with_reducible apply Lo.ne'; (repeat (first | with_reducible assumption | with_reducible apply Lo.self | with_reducible apply Lo.new | with_reducible apply Lo.set | with_reducible apply Lo.self1 | with_reducible apply Lo.self2)); done) | (with_reducible apply Lo.ne1'; (repeat (first | with_reducible assumption | with_reducible apply Lo.self | with_reducible apply Lo.new | with_reducible apply Lo.set | with_reducible apply Lo.self1 | with_reducible apply Lo.self2)); done)); done))))); (· exact rfl); (· exact rfl))
                | (apply op_store_at; (· exact rfl); (· exact rfl); (· exact rfl); (· repeat (first | with_reducible assumption | (with_reducible apply obj_here; with_reducible rfl) | with_reducible apply obj_set | (with_reducible apply obj_skip_lo; (· ((repeat (first | with_reducible assumption | with_reducible apply Lo.self | with_reducible apply Lo.new | with_reducible apply Lo.set | with_reducible apply Lo.self1 | with_reducible apply Lo.self2)); done))) | (with_reducible apply obj_past; (· ((first | with_reducible assumption | with_reducible apply ne_add1 | with_reducible apply ne_add1' | with_reducible apply ne_add2 | with_reducible apply ne_add2' | with_reducible apply ne_add12 | with_reducible apply ne_add21 | (with_reducible apply Lo.ne; (repeat (first | with_reducible assumption | with_reducible apply Lo.self | with_reducible apply Lo.new | with_reducible apply Lo.set | with_reducible apply Lo.self1 | with_reducible apply Lo.self2)); done) | (with_reducible apply Lo.ne1; (repeat (first | with_reducible assumption | with_reducible apply Lo.self | with_reducible apply Lo.new | with_reducible apply Lo.set | with_reducible apply Lo.self1 | with_reducible apply Lo.self2)); done) | (with_reducible apply Lo.ne'; (repeat (first | with_reducible assumption | with_reducible apply Lo.self | with_reducible apply Lo.new | with_reducible apply Lo.set | with_reducible apply Lo.self1 | with_reducible apply Lo.self2)); done) | (with_reducible apply Lo.ne1'; (repeat (first | with_reducible assumption | with_reducible apply Lo.self | with_reducible apply Lo.new | with_reducible apply Lo.set | with_reducible apply Lo.self1 | with_reducible apply Lo.self2)); done)); done))))); (· exact rfl); (· exact rfl); (· exact rfl))
                | (apply op_at; (· exact opD_eqb rfl rfl rfl rfl))
                | (apply op_at; (· exact opD_neqb rfl rfl rfl rfl))
                | (apply op_at; (· exact rfl))
                | (apply dwp_cond_t; (· exact rfl); (· (first | with_reducible assumption | with_reducible rfl | decide)))
                | (apply dwp_cond_f; (· exact rfl); (· (first | with_reducible assumption | with_reducible rfl | decide)))
                | (refine dwp_cond rfl ?_ ?_ <;> intro hb)
                | apply dwp_block
                | apply dwp_skip
                | apply dwp_ret
                | apply dwp_exit
                | (refine ⟨_, rfl, ?_⟩)
                | fail)
              refine ⟨⟨_, j + 1, _, _, _, _, _, _, _, _, junk_facts (⟨by omega, ht8, popV_heap hE0, hpn⟩) rfl rfl⟩, ?_⟩
              exact hmj
        · have hcj : decide ((j : Int) < (m : Int)) = false := by simp; omega
          have htj' := htj
          repeat' (first
            | dsimp only [putD, DV.cells, DH.new_next, DH.set_next, List.length_cons, List.length_nil, Nat.reduceAdd, List.set_cons_zero, List.set_cons_succ, getD_zero, getD_succ, fieldAt_zero, fieldAt_succ, thenD, blockD, retR]
            | apply dwp_seq
            | apply dwp_region
            | apply ops_nil
            | (apply ops_plain; (· exact rfl))
            | (apply ops_on; (· exact rfl); (· exact rfl); (· (first | with_reducible assumption | with_reducible rfl | decide)))
            | (apply ops_off1; (· exact rfl); (· exact rfl); (· (first | with_reducible assumption | with_reducible rfl | decide)))
            | (apply ops_off0; (· exact rfl); (· exact rfl); (· (first | with_reducible assumption | with_reducible rfl | decide)))
            | (apply ops_offn; (· exact rfl); (· exact rfl))
            | (apply ops_split1; (· exact rfl); (· exact rfl); all_goals intro hb)
            | (apply ops_split0; (· exact rfl); (· exact rfl); all_goals intro hb)
            | (apply op_pick_t; (· exact rfl); (· exact rfl); (· (first | with_reducible assumption | with_reducible rfl | decide)); (· exact rfl))
            | (apply op_pick_f; (· exact rfl); (· exact rfl); (· (first | with_reducible assumption | with_reducible rfl | decide)); (· exact rfl))
            | (apply op_load_at; (· exact rfl); (· exact rfl); (· repeat (first | with_reducible assumption | (with_reducible apply obj_here; with_reducible rfl) | with_reducible apply obj_set | (with_reducible apply obj_skip_lo; (· ((repeat (first | with_reducible assumption | with_reducible apply Lo.self | with_reducible apply Lo.new | with_reducible apply Lo.set | with_reducible apply Lo.self1 | with_reducible apply Lo.self2)); done))) | (with_reducible apply obj_past; (· ((first | with_reducible assumption | with_reducible apply ne_add1 | with_reducible apply ne_add1' | with_reducible apply ne_add2 | with_reducible apply ne_add2' | with_reducible apply ne_add12 | with_reducible apply ne_add21 | (with_reducible apply Lo.ne; (repeat (first | with_reducible assumption | with_reducible apply Lo.self | with_reducible apply Lo.new | with_reducible apply Lo.set | with_reducible apply Lo.self1 | with_reducible apply Lo.self2)); done) | (with_reducible apply Lo.ne1; (repeat (first | with_reducible assumption | with_reducible apply Lo.self | with_reducible apply Lo.new | with_reducible apply Lo.set | with_reducible apply Lo.self1 | with_reducible apply Lo.self2)); done) | (with_reducible apply Lo.ne'; (repeat (first | with_reducible assumption | with_reducible apply Lo.self | with_reducible apply Lo.new | with_reducible apply Lo.set | with_reducible apply Lo.self1 | with_reducible apply Lo.self2)); done) | (with_reducible apply Lo.ne1'; (repeat (first | with_reducible assumption | with_reducible apply Lo.self | with_reducible apply Lo.new | with_reducible apply Lo.set | with_reducible apply Lo.self1 | with_reducible apply Lo.self2)); done)); done))))); (· exact rfl); (· exact rfl))
            | (apply op_store_at; (· exact rfl); (· exact rfl); (· exact rfl); (· repeat (first | with_reducible assumption | (with_reducible apply obj_here; with_reducible rfl) | with_reducible apply obj_set | (with_reducible apply obj_skip_lo; (· ((repeat (first | with_reducible assumption | with_reducible apply Lo.self | with_reducible apply Lo.new | with_reducible apply Lo.set | with_reducible apply Lo.self1 | with_reducible apply Lo.self2)); done))) | (with_reducible apply obj_past; (· ((first | with_reducible assumption | with_reducible apply ne_add1 | with_reducible apply ne_add1' | with_reducible apply ne_add2 | with_reducible apply ne_add2' | with_reducible apply ne_add12 | with_reducible apply ne_add21 | (with_reducible apply Lo.ne; (repeat (first | with_reducible assumption | with_reducible apply Lo.self | with_reducible apply Lo.new | with_reducible apply Lo.set | with_reducible apply Lo.self1 | with_reducible apply Lo.self2)); done) | (with_reducible apply Lo.ne1; (repeat (first | with_reducible assumption | with_reducible apply Lo.self | with_reducible apply Lo.new | with_reducible apply Lo.set | with_reducible apply Lo.self1 | with_reducible apply Lo.self2)); done) | (with_reducible apply Lo.ne'; (repeat (first | with_reducible assumption | with_reducible apply Lo.self | with_reducible apply Lo.new | with_reducible apply Lo.set | with_reducible apply Lo.self1 | with_reducible apply Lo.self2)); done) | (with_reducible apply Lo.ne1'; (repeat (first | with_reducible assumption | with_reducible apply Lo.self | with_reducible apply Lo.new | with_reducible apply Lo.set | with_reducible apply Lo.self1 | with_reducible apply Lo.self2)); done)); done))))); (· exact rfl); (· exact rfl); (· exact rfl))
            | (apply op_at; (· exact opD_eqb rfl rfl rfl rfl))
            | (apply op_at; (· exact opD_neqb rfl rfl rfl rfl))
            | (apply op_at; (· exact rfl))
            | (apply dwp_cond_t; (· exact rfl); (· (first | with_reducible assumption | with_reducible rfl | decide)))
            | (apply dwp_cond_f; (· exact rfl); (· (first | with_reducible assumption | with_reducible rfl | decide)))
            | (refine dwp_cond rfl ?_ ?_ <;> intro hb)
            | apply dwp_block
            | apply dwp_skip
            | apply dwp_ret
            | apply dwp_exit
            | (refine ⟨_, rfl, ?_⟩)
            | fail)
          rw [hw]
          exact ⟨⟨_, k + 1, _, _, _, _, _, _, _, _, junk_facts (⟨by omega, htj', hhj, hpj⟩) rfl rfl⟩, hmes⟩
    · obtain rfl : k = l.length := by omega
      rw [List.take_length] at hp
      have hc : decide ((l.length : Int) < (l.length : Int)) = false := by simp
      repeat' (first
        | dsimp only [putD, DV.cells, DH.new_next, DH.set_next, List.length_cons, List.length_nil, Nat.reduceAdd, List.set_cons_zero, List.set_cons_succ, getD_zero, getD_succ, fieldAt_zero, fieldAt_succ, thenD, blockD, retR]
        | apply dwp_seq
        | apply dwp_region
        | apply ops_nil
        | (apply ops_plain; (· exact rfl))
        | (apply ops_on; (· exact rfl); (· exact rfl); (· (first | with_reducible assumption | with_reducible rfl | decide)))
        | (apply ops_off1; (· exact rfl); (· exact rfl); (· (first | with_reducible assumption | with_reducible rfl | decide)))
        | (apply ops_off0; (· exact rfl); (· exact rfl); (· (first | with_reducible assumption | with_reducible rfl | decide)))
        | (apply ops_offn; (· exact rfl); (· exact rfl))
        | (apply ops_split1; (· exact rfl); (· exact rfl); all_goals intro hb)
        | (apply ops_split0; (· exact rfl); (· exact rfl); all_goals intro hb)
        | (apply op_pick_t; (· exact rfl); (· exact rfl); (· (first | with_reducible assumption | with_reducible rfl | decide)); (· exact rfl))
        | (apply op_pick_f; (· exact rfl); (· exact rfl); (· (first | with_reducible assumption | with_reducible rfl | decide)); (· exact rfl))
        | (apply op_load_at; (· exact rfl); (· exact rfl); (· repeat (first | with_reducible assumption | (with_reducible apply obj_here; with_reducible rfl) | with_reducible apply obj_set | (with_reducible apply obj_skip_lo; (· ((repeat (first | with_reducible assumption | with_reducible apply Lo.self | with_reducible apply Lo.new | with_reducible apply Lo.set | with_reducible apply Lo.self1 | with_reducible apply Lo.self2)); done))) | (with_reducible apply obj_past; (· ((first | with_reducible assumption | with_reducible apply ne_add1 | with_reducible apply ne_add1' | with_reducible apply ne_add2 | with_reducible apply ne_add2' | with_reducible apply ne_add12 | with_reducible apply ne_add21 | (with_reducible apply Lo.ne; (repeat (first | with_reducible assumption | with_reducible apply Lo.self | with_reducible apply Lo.new | with_reducible apply Lo.set | with_reducible apply Lo.self1 | with_reducible apply Lo.self2)); done) | (with_reducible apply Lo.ne1; (repeat (first | with_reducible assumption | with_reducible apply Lo.self | with_reducible apply Lo.new | with_reducible apply Lo.set | with_reducible apply Lo.self1 | with_reducible apply Lo.self2)); done) | (with_reducible apply Lo.ne'; (repeat (first | with_reducible assumption | with_reducible apply Lo.self | with_reducible apply Lo.new | with_reducible apply Lo.set | with_reducible apply Lo.self1 | with_reducible apply Lo.self2)); done) | (with_reducible apply Lo.ne1'; (repeat (first | with_reducible assumption | with_reducible apply Lo.self | with_reducible apply Lo.new | with_reducible apply Lo.set | with_reducible apply Lo.self1 | with_reducible apply Lo.self2)); done)); done))))); (· exact rfl); (· exact rfl))
        | (apply op_store_at; (· exact rfl); (· exact rfl); (· exact rfl); (· repeat (first | with_reducible assumption | (with_reducible apply obj_here; with_reducible rfl) | with_reducible apply obj_set | (with_reducible apply obj_skip_lo; (· ((repeat (first | with_reducible assumption | with_reducible apply Lo.self | with_reducible apply Lo.new | with_reducible apply Lo.set | with_reducible apply Lo.self1 | with_reducible apply Lo.self2)); done))) | (with_reducible apply obj_past; (· ((first | with_reducible assumption | with_reducible apply ne_add1 | with_reducible apply ne_add1' | with_reducible apply ne_add2 | with_reducible apply ne_add2' | with_reducible apply ne_add12 | with_reducible apply ne_add21 | (with_reducible apply Lo.ne; (repeat (first | with_reducible assumption | with_reducible apply Lo.self | with_reducible apply Lo.new | with_reducible apply Lo.set | with_reducible apply Lo.self1 | with_reducible apply Lo.self2)); done) | (with_reducible apply Lo.ne1; (repeat (first | with_reducible assumption | with_reducible apply Lo.self | with_reducible apply Lo.new | with_reducible apply Lo.set | with_reducible apply Lo.self1 | with_reducible apply Lo.self2)); done) | (with_reducible apply Lo.ne'; (repeat (first | with_reducible assumption | with_reducible apply Lo.self | with_reducible apply Lo.new | with_reducible apply Lo.set | with_reducible apply Lo.self1 | with_reducible apply Lo.self2)); done) | (with_reducible apply Lo.ne1'; (repeat (first | with_reducible assumption | with_reducible apply Lo.self | with_reducible apply Lo.new | with_reducible apply Lo.set | with_reducible apply Lo.self1 | with_reducible apply Lo.self2)); done)); done))))); (· exact rfl); (· exact rfl); (· exact rfl))
        | (apply op_at; (· exact opD_eqb rfl rfl rfl rfl))
        | (apply op_at; (· exact opD_neqb rfl rfl rfl rfl))
        | (apply op_at; (· exact rfl))
        | (apply dwp_cond_t; (· exact rfl); (· (first | with_reducible assumption | with_reducible rfl | decide)))
        | (apply dwp_cond_f; (· exact rfl); (· (first | with_reducible assumption | with_reducible rfl | decide)))
        | (refine dwp_cond rfl ?_ ?_ <;> intro hb)
        | apply dwp_block
        | apply dwp_skip
        | apply dwp_ret
        | apply dwp_exit
        | (refine ⟨_, rfl, ?_⟩)
        | fail)
      refine dwp_loop (fun st => ∃ (Hd : DH) (p6 : Option (Nat × Nat × Nat)) (c6 : Nat) (e6 : Bool) (h : List Item) (p7 : Option (Nat × Nat × Nat)) (c7 : Nat) (e7 : Bool) (o2 : List Item), ∃ J : Nat → DV, (Two H Hd p6 c6 e6 h p7 c7 e7 o2 ∧ Heap h ∧ List.Perm (o2 ++ h) l ∧ (∀ o t, o2 = o ++ [t] → out.length < o2.length → ∀ z ∈ h, ilt z t = false) ∧ out.length ≤ o2.length) ∧ st = ⟨(.sl p l.length c ex :: .sl pp np cp ep :: J 2 :: J 3 :: J 4 :: .bool true :: .sl p6 h.length c6 e6 :: .sl p7 o2.length c7 e7 :: J 8 :: J 9 :: J 10 :: J 11 :: J 12 :: J 13 :: J 14 :: J 15 :: J 16 :: .int .i64 out.length :: J 18 :: J 19 :: J 20 :: J 21 :: J 22 :: J 23 :: J 24 :: J 25 :: J 26 :: J 27 :: J 28 :: J 29 :: J 30 :: J 31 :: J 32 :: J 33 :: J 34 :: J 35 :: J 36 :: J 37 :: J 38 :: J 39 :: J 40 :: J 41 :: J 42 :: J 43 :: J 44 :: J 45 :: J 46 :: J 47 :: J 48 :: J 49 :: J 50 :: J 51 :: J 52 :: J 53 :: J 54 :: J 55 :: J 56 :: J 57 :: J 58 :: J 59 :: J 60 :: J 61 :: J 62 :: J 63 :: J 64 :: J 65 :: J 66 :: J 67 :: J 68 :: J 69 :: J 70 :: J 71 :: J 72 :: J 73 :: J 74 :: J 75 :: J 76 :: J 77 :: J 78 :: J 79 :: J 80 :: J 81 :: J 82 :: J 83 :: J 84 :: J 85 :: J 86 :: J 87 :: J 88 :: J 89 :: J 90 :: J 91 :: J 92 :: J 93 :: J 94 :: J 95 :: J 96 :: J 97 :: J 98 :: J 99 :: J 100 :: J 101 :: J 102 :: J 103 :: J 104 :: J 105 :: J 106 :: J 107 :: J 108 :: J 109 :: J 110 :: J 111 :: J 112 :: J 113 :: J 114 :: J 115 :: J 116 :: J 117 :: J 118 :: J 119 :: J 120 :: J 121 :: J 122 :: J 123 :: J 124 :: J 125 :: J 126 :: J 127 :: J 128 :: J 129 :: J 130 :: J 131 :: J 132 :: J 133 :: J 134 :: []), Hd⟩) (fun st => lnOf st 6) (⟨Hk, p6, c6, e6, h, p7, c7, e7, out, junk_facts (⟨ht, hh, hp, fun o t _ h => by omega, by omega⟩) rfl rfl⟩) ?_
      rintro st ⟨Hd, q6, d6, f6, hb, q7, d7, f7, ob, J, ⟨htj, hhj, hpj, hla, hn1⟩, rfl⟩
      have hlj := hpj.length_eq
      rw [List.length_append] at hlj
      by_cases he : hb = []
      · subst he
        have hib := out_it htj (by omega)
        have hil : Its Hd (.sl p l.length c ex) l := ⟨_, _, _, rfl, hl.mono htj.ab⟩
        rw [List.append_nil] at hpj
        have hsm : decide (sortL ob = sortL l) = true := by rw [decide_eq_true_eq]; exact sortL_congr hpj
        repeat' (first
          | dsimp only [putD, DV.cells, DH.new_next, DH.set_next, List.length_cons, List.length_nil, Nat.reduceAdd, List.set_cons_zero, List.set_cons_succ, getD_zero, getD_succ, fieldAt_zero, fieldAt_succ, thenD, blockD, retR]
          | apply dwp_seq
          | apply dwp_region
          | apply ops_nil
          | (apply ops_plain; (· exact rfl))
          | (apply ops_on; (· exact rfl); (· exact rfl); (· (first | with_reducible assumption | with_reducible rfl | decide)))
          | (apply ops_off1; (· exact rfl); (· exact rfl); (· (first | with_reducible assumption | with_reducible rfl | decide)))
          | (apply ops_off0; (· exact rfl); (· exact rfl); (· (first | with_reducible assumption | with_reducible rfl | decide)))
          | (apply ops_offn; (· exact rfl); (· exact rfl))
          | (apply ops_split1; (· exact rfl); (· exact rfl); all_goals intro hb)
          | (apply ops_split0; (· exact rfl); (· exact rfl); all_goals intro hb)
          | (apply op_call; (· exact rfl); (· exact rfl); (· exact rfl); refine call_table (g := gSame) rfl (same_t (i3.its.mono ab4) i4.its) ?_; rw [hsm])
          | (apply op_call; (· exact rfl); (· exact rfl); (· exact rfl); refine (sorted_c hib (by simp at hlj; omega)).mono ?_; rintro r3 H3 ⟨ab3, i3⟩)
          | (apply op_call; (· exact rfl); (· exact rfl); (· exact rfl); refine (sorted_c (hil.mono ab3) (by omega)).mono ?_; rintro r4 H4 ⟨ab4, i4⟩)
          | (apply op_pick_t; (· exact rfl); (· exact rfl); (· (first | with_reducible assumption | with_reducible rfl | decide)); (· exact rfl))
          | (apply op_pick_f; (· exact rfl); (· exact rfl); (· (first | with_reducible assumption | with_reducible rfl | decide)); (· exact rfl))
          | (apply op_load_at; (· exact rfl); (· exact rfl); (· repeat (first | with_reducible assumption | (with_reducible apply obj_here; with_reducible rfl) | with_reducible apply obj_set | (with_reducible apply obj_skip_lo; (· ((repeat (first | with_reducible assumption | with_reducible apply Lo.self | with_reducible apply Lo.new | with_reducible apply Lo.set | with_reducible apply Lo.self1 | with_reducible apply Lo.self2)); done))) | (with_reducible apply obj_past; (· ((first | with_reducible assumption | with_reducible apply ne_add1 | with_reducible apply ne_add1' | with_reducible apply ne_add2 | with_reducible apply ne_add2' | with_reducible apply ne_add12 | with_reducible apply ne_add21 | (with_reducible apply Lo.ne; (repeat (first | with_reducible assumption | with_reducible apply Lo.self | with_reducible apply Lo.new | with_reducible apply Lo.set | with_reducible apply Lo.self1 | with_reducible apply Lo.self2)); done) | (with_reducible apply Lo.ne1; (repeat (first | with_reducible assumption | with_reducible apply Lo.self | with_reducible apply Lo.new | with_reducible apply Lo.set | with_reducible apply Lo.self1 | with_reducible apply Lo.self2)); done) | (with_reducible apply Lo.ne'; (repeat (first | with_reducible assumption | with_reducible apply Lo.self | with_reducible apply Lo.new | with_reducible apply Lo.set | with_reducible apply Lo.self1 | with_reducible apply Lo.self2)); done) | (with_reducible apply Lo.ne1'; (repeat (first | with_reducible assumption | with_reducible apply Lo.self | with_reducible apply Lo.new | with_reducible apply Lo.set | with_reducible apply Lo.self1 | with_reducible apply Lo.self2)); done)); done))))); (· exact rfl); (· exact rfl))
          | (apply op_store_at; (· exact rfl); (· exact rfl); (· exact rfl); (· repeat (first | with_reducible assumption | (with_reducible apply obj_here; with_reducible rfl) | with_reducible apply obj_set | (with_reducible apply obj_skip_lo; (· ((repeat (first | with_reducible assumption | with_reducible apply Lo.self | with_reducible apply Lo.new | with_reducible apply Lo.set | with_reducible apply Lo.self1 | with_reducible apply Lo.self2)); done))) | (with_reducible apply obj_past; (· ((first | with_reducible assumption | with_reducible apply ne_add1 | with_reducible apply ne_add1' | with_reducible apply ne_add2 | with_reducible apply ne_add2' | with_reducible apply ne_add12 | with_reducible apply ne_add21 | (with_reducible apply Lo.ne; (repeat (first | with_reducible assumption | with_reducible apply Lo.self | with_reducible apply Lo.new | with_reducible apply Lo.set | with_reducible apply Lo.self1 | with_reducible apply Lo.self2)); done) | (with_reducible apply Lo.ne1; (repeat (first | with_reducible assumption | with_reducible apply Lo.self | with_reducible apply Lo.new | with_reducible apply Lo.set | with_reducible apply Lo.self1 | with_reducible apply Lo.self2)); done) | (with_reducible apply Lo.ne'; (repeat (first | with_reducible assumption | with_reducible apply Lo.self | with_reducible apply Lo.new | with_reducible apply Lo.set | with_reducible apply Lo.self1 | with_reducible apply Lo.self2)); done) | (with_reducible apply Lo.ne1'; (repeat (first | with_reducible assumption | with_reducible apply Lo.self | with_reducible apply Lo.new | with_reducible apply Lo.set | with_reducible apply Lo.self1 | with_reducible apply Lo.self2)); done)); done))))); (· exact rfl); (· exact rfl); (· exact rfl))
          | (apply op_at; (· exact opD_eqb rfl rfl rfl rfl))
          | (apply op_at; (· exact opD_neqb rfl rfl rfl rfl))
          | (apply op_at; (· exact rfl))
          | (apply dwp_cond_t; (· exact rfl); (· (first | with_reducible assumption | with_reducible rfl | decide)))
          | (apply dwp_cond_f; (· exact rfl); (· (first | with_reducible assumption | with_reducible rfl | decide)))
          | (refine dwp_cond rfl ?_ ?_ <;> intro hb)
          | apply dwp_block
          | apply dwp_skip
          | apply dwp_ret
          | apply dwp_exit
          | (refine ⟨_, rfl, ?_⟩)
          | fail)
      · have hE0 : popE hb = 0 := popE_ok (checkB_heap.mpr ⟨hhj, by omega⟩) he
        have hpos := List.length_pos_iff.mpr he
        have hcj : decide ((hb.length : Int) > 0) = true := by simp only [decide_eq_true_eq]; omega
        have hpl2 := popV_len hE0
        have hmem := popV_mem hE0
        have hq : ((((popV hb).length : Nat) : Int) != IntKind.i64.wrap ((hb.length : Int) - 1)) = false := by
          rw [wrapI (by omega), hpl2]; simp; omega
        have hpn : List.Perm (ob ++ [popX hb] ++ popV hb) l := by
          rw [List.append_assoc]
          exact ((popV_perm hE0).symm.append_left ob).trans hpj
        have hlast : ∀ o t, ob ++ [popX hb] = o ++ [t] → out.length < (ob ++ [popX hb]).length → ∀ z ∈ popV hb, ilt z t = false := by
          intro o t e _ z hz
          have e' := congrArg List.getLast? e
          simp only [List.getLast?_concat, Option.some.injEq] at e'
          rw [← e']
          exact hmem z hz
        have hnn : out.length ≤ (ob ++ [popX hb]).length := by simp; omega
        by_cases hg : out.length < ob.length
        · obtain ⟨o, t, hot⟩ : ∃ o t, ob = o ++ [t] := by
            have := List.dropLast_concat_getLast (l := ob) (by intro e; rw [e] at hg; simp at hg)
            exact ⟨_, _, this.symm⟩
          have hgt : decide ((ob.length : Int) > (out.length : Int)) = true := by simp only [decide_eq_true_eq]; omega
          have hlt' := hla o t hot hg (popX hb) ((popV_perm hE0).mem_iff.mpr (List.mem_cons_self ..))
          have hob : ob[ob.length - 1]? = some t := by rw [hot]; simp
          have hin5 : 0 ≤ (((ob.length - 1 : Nat) : Nat) : Int) ∧ (((ob.length - 1 : Nat) : Nat) : Int) < (ob.length : Int) := by omega
          have hwo : DV.int .i64 (IntKind.i64.wrap ((ob.length : Int) - 1)) = .int .i64 ((ob.length - 1 : Nat) : Int) := by rw [wrapI (by omega)]; congr 1; omega
          obtain ⟨loc2, i2, ro2, rs2, rfl, hloc2, ho2, hr2⟩ := out_at htj (by omega) hob
          have hr2' : rs2[i2 + (((ob.length - 1 : Nat) : Int)).toNat]? = some t.cells := by rw [Int.toNat_natCast]; exact hr2
          repeat' (first
            | dsimp only [putD, DV.cells, DH.new_next, DH.set_next, List.length_cons, List.length_nil, Nat.reduceAdd, List.set_cons_zero, List.set_cons_succ, getD_zero, getD_succ, fieldAt_zero, fieldAt_succ, thenD, blockD, retR]
            | (apply drawc_pure; (· (first | exact wanted_plain rfl | (apply wanted_on; (· exact rfl); (· exact rfl); (· (first | with_reducible assumption | with_reducible rfl | decide))))); (· exact rfl); (· exact rfl); (· exact (told2 rfl hwo)))
            | (apply drawc_pure; (· (first | exact wanted_plain rfl | (apply wanted_on; (· exact rfl); (· exact rfl); (· (first | with_reducible assumption | with_reducible rfl | decide))))); (· exact rfl); (· exact rfl); (· exact opD_index rfl rfl rfl rfl rfl hin5))
            | (apply drawc_read_at; (· exact rfl); (· (first | exact wanted_plain rfl | (apply wanted_on; (· exact rfl); (· exact rfl); (· (first | with_reducible assumption | with_reducible rfl | decide))))); (· exact rfl); (· exact aaj.obj hloc2 ho2); (· exact hr2'); (· exact item_part t); (· decide +kernel))
            | (apply drawc_read_at; (· exact rfl); (· (first | exact wanted_plain rfl | (apply wanted_on; (· exact rfl); (· exact rfl); (· (first | with_reducible assumption | with_reducible rfl | decide))))); (· exact rfl); (· repeat (first | with_reducible assumption | (with_reducible apply obj_here; with_reducible rfl) | with_reducible apply obj_set | (with_reducible apply obj_skip_lo; (· ((repeat (first | with_reducible assumption | with_reducible apply Lo.self | with_reducible apply Lo.new | with_reducible apply Lo.set | with_reducible apply Lo.self1 | with_reducible apply Lo.self2)); done))) | (with_reducible apply obj_past; (· ((first | with_reducible assumption | with_reducible apply ne_add1 | with_reducible apply ne_add1' | with_reducible apply ne_add2 | with_reducible apply ne_add2' | with_reducible apply ne_add12 | with_reducible apply ne_add21 | (with_reducible apply Lo.ne; (repeat (first | with_reducible assumption | with_reducible apply Lo.self | with_reducible apply Lo.new | with_reducible apply Lo.set | with_reducible apply Lo.self1 | with_reducible apply Lo.self2)); done) | (with_reducible apply Lo.ne1; (repeat (first | with_reducible assumption | with_reducible apply Lo.self | with_reducible apply Lo.new | with_reducible apply Lo.set | with_reducible apply Lo.self1 | with_reducible apply Lo.self2)); done) | (with_reducible apply Lo.ne'; (repeat (first | with_reducible assumption | with_reducible apply Lo.self | with_reducible apply Lo.new | with_reducible apply Lo.set | with_reducible apply Lo.self1 | with_reducible apply Lo.self2)); done) | (with_reducible apply Lo.ne1'; (repeat (first | with_reducible assumption | with_reducible apply Lo.self | with_reducible apply Lo.new | with_reducible apply Lo.set | with_reducible apply Lo.self1 | with_reducible apply Lo.self2)); done)); done))))); (· exact rfl); (· exact item_part (popX hb)); (· decide +kernel))
            | apply dwp_seq
            | apply dwp_region
            | apply ops_nil
            | (apply ops_plain; (· exact rfl))
            | (apply ops_on; (· exact rfl); (· exact rfl); (· (first | with_reducible assumption | with_reducible rfl | decide)))
            | (apply ops_off1; (· exact rfl); (· exact rfl); (· (first | with_reducible assumption | with_reducible rfl | decide)))
            | (apply ops_off0; (· exact rfl); (· exact rfl); (· (first | with_reducible assumption | with_reducible rfl | decide)))
            | (apply ops_offn; (· exact rfl); (· exact rfl))
            | (apply ops_split1; (· exact rfl); (· exact rfl); all_goals intro hb)
            | (apply ops_split0; (· exact rfl); (· exact rfl); all_goals intro hb)
            | (apply op_call; (· exact rfl); (· exact rfl); (· exact rfl); refine rless_call4 ?_; rw [hlt'])
            | (apply op_call; (· exact rfl); (· exact rfl); (· exact rfl); refine (pop_c (⟨_, _, _, rfl, htj.it⟩ : Its _ (.sl q6 hb.length d6 f6) hb) (by omega)).mono ?_; rintro r H2 ⟨ab2, s2, rfl, i2⟩; rw [hE0]; obtain ⟨p2, c2, e2, rfl, it2, if2⟩ := i2; have aaj : ∀ {o o'}, Above Hd ((H2.new o).set H2.next o') := fun {o o'} => hup ab2; have aa2 : ∀ {o o'}, Above H2 ((H2.new o).set H2.next o') := fun {o o'} => hup (Above.refl _); have htc := fun o o' => htj.next (aaj (o := o) (o' := o')) (it2.mono aa2) if2)
            | (apply op_pick_t; (· exact rfl); (· exact rfl); (· (first | with_reducible assumption | with_reducible rfl | decide)); (· exact rfl))
            | (apply op_pick_f; (· exact rfl); (· exact rfl); (· (first | with_reducible assumption | with_reducible rfl | decide)); (· exact rfl))
            | (refine op_out rfl rfl rfl (obj_here rfl) (Nat.lt_succ_self _) ((htc _ _).mono ((Above.refl _).new _)) (by omega) ?_; intro p8 c8 e8 H8 ht8 hk8 hle8)
            | (apply op_load_at; (· exact rfl); (· exact rfl); (· repeat (first | with_reducible assumption | (with_reducible apply obj_here; with_reducible rfl) | with_reducible apply obj_set | (with_reducible apply obj_skip_lo; (· ((repeat (first | with_reducible assumption | with_reducible apply Lo.self | with_reducible apply Lo.new | with_reducible apply Lo.set | with_reducible apply Lo.self1 | with_reducible apply Lo.self2)); done))) | (with_reducible apply obj_past; (· ((first | with_reducible assumption | with_reducible apply ne_add1 | with_reducible apply ne_add1' | with_reducible apply ne_add2 | with_reducible apply ne_add2' | with_reducible apply ne_add12 | with_reducible apply ne_add21 | (with_reducible apply Lo.ne; (repeat (first | with_reducible assumption | with_reducible apply Lo.self | with_reducible apply Lo.new | with_reducible apply Lo.set | with_reducible apply Lo.self1 | with_reducible apply Lo.self2)); done) | (with_reducible apply Lo.ne1; (repeat (first | with_reducible assumption | with_reducible apply Lo.self | with_reducible apply Lo.new | with_reducible apply Lo.set | with_reducible apply Lo.self1 | with_reducible apply Lo.self2)); done) | (with_reducible apply Lo.ne'; (repeat (first | with_reducible assumption | with_reducible apply Lo.self | with_reducible apply Lo.new | with_reducible apply Lo.set | with_reducible apply Lo.self1 | with_reducible apply Lo.self2)); done) | (with_reducible apply Lo.ne1'; (repeat (first | with_reducible assumption | with_reducible apply Lo.self | with_reducible apply Lo.new | with_reducible apply Lo.set | with_reducible apply Lo.self1 | with_reducible apply Lo.self2)); done)); done))))); (· exact rfl); (· exact item_part (popX hb)))
            | (apply op_load_at; (· exact rfl); (· exact rfl); (· repeat (first | with_reducible assumption | (with_reducible apply obj_here; with_reducible rfl) | with_reducible apply obj_set | (with_reducible apply obj_skip_lo; (· ((repeat (first | with_reducible assumption | with_reducible apply Lo.self | with_reducible apply Lo.new | with_reducible apply Lo.set | with_reducible apply Lo.self1 | with_reducible apply Lo.self2)); done))) | (with_reducible apply obj_past; (· ((first | with_reducible assumption | with_reducible apply ne_add1 | with_reducible apply ne_add1' | with_reducible apply ne_add2 | with_reducible apply ne_add2' | with_reducible apply ne_add12 | with_reducible apply ne_add21 | (with_reducible apply Lo.ne; (repeat (first | with_reducible assumption | with_reducible apply Lo.self | with_reducible apply Lo.new | with_reducible apply Lo.set | with_reducible apply Lo.self1 | with_reducible apply Lo.self2)); done) | (with_reducible apply Lo.ne1; (repeat (first | with_reducible assumption | with_reducible apply Lo.self | with_reducible apply Lo.new | with_reducible apply Lo.set | with_reducible apply Lo.self1 | with_reducible apply Lo.self2)); done) | (with_reducible apply Lo.ne'; (repeat (first | with_reducible assumption | with_reducible apply Lo.self | with_reducible apply Lo.new | with_reducible apply Lo.set | with_reducible apply Lo.self1 | with_reducible apply Lo.self2)); done) | (with_reducible apply Lo.ne1'; (repeat (first | with_reducible assumption | with_reducible apply Lo.self | with_reducible apply Lo.new | with_reducible apply Lo.set | with_reducible apply Lo.self1 | with_reducible apply Lo.self2)); done)); done))))); (· exact rfl); (· exact rfl))
            | (apply op_store_at; (· exact rfl); (· exact rfl); (· exact rfl); (· repeat (first | with_reducible assumption | (with_reducible apply obj_here; with_reducible rfl) | with_reducible apply obj_set | (with_reducible apply obj_skip_lo; (· ((repeat (first | with_reducible assumption | with_reducible apply Lo.self | with_reducible apply Lo.new | with_reducible apply Lo.set | with_reducible apply Lo.self1 | with_reducible apply Lo.self2)); done))) | (with_reducible apply obj_past; (· ((first | with_reducible assumption | with_reducible apply ne_add1 | with_reducible apply ne_add1' | with_reducible apply ne_add2 | with_reducible apply ne_add2' | with_reducible apply ne_add12 | with_reducible apply ne_add21 | (with_reducible apply Lo.ne; (repeat (first | with_reducible assumption | with_reducible apply Lo.self | with_reducible apply Lo.new | with_reducible apply Lo.set | with_reducible apply Lo.self1 | with_reducible apply Lo.self2)); done) | (with_reducible apply Lo.ne1; (repeat (first | with_reducible assumption | with_reducible apply Lo.self | with_reducible apply Lo.new | with_reducible apply Lo.set | with_reducible apply Lo.self1 | with_reducible apply Lo.self2)); done) | (with_reducible apply Lo.ne'; (repeat (first | with_reducible assumption | with_reducible apply Lo.self | with_reducible apply Lo.new | with_reducible apply Lo.set | with_reducible apply Lo.self1 | with_reducible apply Lo.self2)); done) | (with_reducible apply Lo.ne1'; (repeat (first | with_reducible assumption | with_reducible apply Lo.self | with_reducible apply Lo.new | with_reducible apply Lo.set | with_reducible apply Lo.self1 | with_reducible apply Lo.self2)); done)); done))))); (· exact rfl); (· exact rfl); (· exact rfl))
            | (apply op_at; (· exact opD_eqb rfl rfl rfl rfl))
            | (apply op_at; (· exact opD_neqb rfl rfl rfl rfl))
            | (apply op_at; (· exact rfl))
            | refine dwp_drawc _ rfl ?_
            | apply drawc_nil
            | (apply drawc_read_at; (· exact rfl); (· (first | exact wanted_plain rfl | (apply wanted_on; (· exact rfl); (· exact rfl); (· (first | with_reducible assumption | with_reducible rfl | decide))))); (· exact rfl); (· repeat (first | with_reducible assumption | (with_reducible apply obj_here; with_reducible rfl) | with_reducible apply obj_set | (with_reducible apply obj_skip_lo; (· ((repeat (first | with_reducible assumption | with_reducible apply Lo.self | with_reducible apply Lo.new | with_reducible apply Lo.set | with_reducible apply Lo.self1 | with_reducible apply Lo.self2)); done))) | (with_reducible apply obj_past; (· ((first | with_reducible assumption | with_reducible apply ne_add1 | with_reducible apply ne_add1' | with_reducible apply ne_add2 | with_reducible apply ne_add2' | with_reducible apply ne_add12 | with_reducible apply ne_add21 | (with_reducible apply Lo.ne; (repeat (first | with_reducible assumption | with_reducible apply Lo.self | with_reducible apply Lo.new | with_reducible apply Lo.set | with_reducible apply Lo.self1 | with_reducible apply Lo.self2)); done) | (with_reducible apply Lo.ne1; (repeat (first | with_reducible assumption | with_reducible apply Lo.self | with_reducible apply Lo.new | with_reducible apply Lo.set | with_reducible apply Lo.self1 | with_reducible apply Lo.self2)); done) | (with_reducible apply Lo.ne'; (repeat (first | with_reducible assumption | with_reducible apply Lo.self | with_reducible apply Lo.new | with_reducible apply Lo.set | with_reducible apply Lo.self1 | with_reducible apply Lo.self2)); done) | (with_reducible apply Lo.ne1'; (repeat (first | with_reducible assumption | with_reducible apply Lo.self | with_reducible apply Lo.new | with_reducible apply Lo.set | with_reducible apply Lo.self1 | with_reducible apply Lo.self2)); done)); done))))); (· exact rfl); (· exact rfl); (· decide +kernel))
            | (apply drawc_pick_t; (· (first | exact wanted_plain rfl | (apply wanted_on; (· exact rfl); (· exact rfl); (· (first | with_reducible assumption | with_reducible rfl | decide))))); (· exact rfl); (· exact rfl); (· (first | with_reducible assumption | with_reducible rfl | decide)); (· exact rfl))
            | (apply drawc_pick_f; (· (first | exact wanted_plain rfl | (apply wanted_on; (· exact rfl); (· exact rfl); (· (first | with_reducible assumption | with_reducible rfl | decide))))); (· exact rfl); (· exact rfl); (· (first | with_reducible assumption | with_reducible rfl | decide)); (· exact rfl))
            | (apply drawc_pure; (· (first | exact wanted_plain rfl | (apply wanted_on; (· exact rfl); (· exact rfl); (· (first | with_reducible assumption | with_reducible rfl | decide))))); (· exact rfl); (· exact rfl); (· exact rfl))
            | (apply drawc_read; (· (first | exact wanted_plain rfl | (apply wanted_on; (· exact rfl); (· exact rfl); (· (first | with_reducible assumption | with_reducible rfl | decide))))); (· exact rfl); (· exact rfl); (· decide +kernel); (· exact rfl))
            | (apply drawc_same; (· (first | exact wanted_plain rfl | (apply wanted_on; (· exact rfl); (· exact rfl); (· (first | with_reducible assumption | with_reducible rfl | decide))))); (· exact rfl); (· decide +kernel); (first | (apply op_call; (· exact rfl); (· exact rfl); (· exact rfl); refine rless_call4 ?_; rw [hlt']; refine ⟨rfl, ?_⟩) | (apply op_call; (· exact rfl); (· exact rfl); (· exact rfl); refine (pop_c (⟨_, _, _, rfl, htj.it⟩ : Its _ (.sl q6 hb.length d6 f6) hb) (by omega)).mono ?_; rintro r H2 ⟨ab2, s2, rfl, i2⟩; rw [hE0]; obtain ⟨p2, c2, e2, rfl, it2, if2⟩ := i2; have aaj : ∀ {o o'}, Above Hd ((H2.new o).set H2.next o') := fun {o o'} => hup ab2; have aa2 : ∀ {o o'}, Above H2 ((H2.new o).set H2.next o') := fun {o o'} => hup (Above.refl _); have htc := fun o o' => htj.next (aaj (o := o) (o' := o')) (it2.mono aa2) if2; refine ⟨rfl, ?_⟩)))
            | (apply drawc_sync; (· (first | exact wanted_plain rfl | (apply wanted_on; (· exact rfl); (· exact rfl); (· (first | with_reducible assumption | with_reducible rfl | decide))))); (· exact rfl); (· decide +kernel))
            | (apply drawc_off; (· (first | (apply wanted_off1; (· exact rfl); (· exact rfl); (· (first | with_reducible assumption | with_reducible rfl | decide))) | (apply wanted_off0; (· exact rfl); (· exact rfl); (· (first | with_reducible assumption | with_reducible rfl | decide))) | (apply wanted_none; (· exact rfl); (· exact rfl)))))
            | (apply dwp_cond_t; (· exact rfl); (· (first | with_reducible assumption | with_reducible rfl | decide)))
            | (apply dwp_cond_f; (· exact rfl); (· (first | with_reducible assumption | with_reducible rfl | decide)))
            | (refine dwp_cond rfl ?_ ?_ <;> intro hb)
            | apply dwp_block
            | apply dwp_skip
            | apply dwp_ret
            | apply dwp_exit
            | (refine ⟨_, rfl, ?_⟩)
            | fail)
          exact ⟨⟨_, _, _, _, _, _, _, _, _, junk_facts (⟨ht8, popV_heap hE0, hpn, hlast, hnn⟩) rfl rfl⟩, by show (popV hb).length < hb.length; omega⟩
        · have hgt : decide ((ob.length : Int) > (out.length : Int)) = false := by simp only [decide_eq_false_iff_not]; omega
          repeat' (first
            | dsimp only [putD, DV.cells, DH.new_next, DH.set_next, List.length_cons, List.length_nil, Nat.reduceAdd, List.set_cons_zero, List.set_cons_succ, getD_zero, getD_succ, fieldAt_zero, fieldAt_succ, thenD, blockD, retR]
            | apply dwp_seq
            | apply dwp_region
            | apply ops_nil
            | (apply ops_plain; (· exact rfl))
            | (apply ops_on; (· exact rfl); (· exact rfl); (· (first | with_reducible assumption | with_reducible rfl | decide)))
            | (apply ops_off1; (· exact rfl); (· exact rfl); (· (first | with_reducible assumption | with_reducible rfl | decide)))
            | (apply ops_off0; (· exact rfl); (· exact rfl); (· (first | with_reducible assumption | with_reducible rfl | decide)))
            | (apply ops_offn; (· exact rfl); (· exact rfl))
            | (apply ops_split1; (· exact rfl); (· exact rfl); all_goals intro hb)
            | (apply ops_split0; (· exact rfl); (· exact rfl); all_goals intro hb)
            | (apply op_call; (· exact rfl); (· exact rfl); (· exact rfl); refine (pop_c (⟨_, _, _, rfl, htj.it⟩ : Its _ (.sl q6 hb.length d6 f6) hb) (by omega)).mono ?_; rintro r H2 ⟨ab2, s2, rfl, i2⟩; rw [hE0]; obtain ⟨p2, c2, e2, rfl, it2, if2⟩ := i2; have aaj : ∀ {o o'}, Above Hd ((H2.new o).set H2.next o') := fun {o o'} => hup ab2; have aa2 : ∀ {o o'}, Above H2 ((H2.new o).set H2.next o') := fun {o o'} => hup (Above.refl _); have htc := fun o o' => htj.next (aaj (o := o) (o' := o')) (it2.mono aa2) if2)
            | (apply op_pick_t; (· exact rfl); (· exact rfl); (· (first | with_reducible assumption | with_reducible rfl | decide)); (· exact rfl))
            | (apply op_pick_f; (· exact rfl); (· exact rfl); (· (first | with_reducible assumption | with_reducible rfl | decide)); (· exact rfl))
            | (refine op_out rfl rfl rfl (obj_here rfl) (Nat.lt_succ_self _) ((htc _ _).mono ((Above.refl _).new _)) (by omega) ?_; intro p8 c8 e8 H8 ht8 hk8 hle8)
            | (apply op_load_at; (· exact rfl); (· exact rfl); (· repeat (first | with_reducible assumption | (with_reducible apply obj_here; with_reducible rfl) | with_reducible apply obj_set | (with_reducible apply obj_skip_lo; (· ((repeat (first | with_reducible assumption | with_reducible apply Lo.self | with_reducible apply Lo.new | with_reducible apply Lo.set | with_reducible apply Lo.self1 | with_reducible apply Lo.self2)); done))) | (with_reducible apply obj_past; (· ((first | with_reducible assumption | with_reducible apply ne_add1 | with_reducible apply ne_add1' | with_reducible apply ne_add2 | with_reducible apply ne_add2' | with_reducible apply ne_add12 | with_reducible apply ne_add21 | (with_reducible apply Lo.ne; (repeat (first | with_reducible assumption | with_reducible apply Lo.self | with_reducible apply Lo.new | with_reducible apply Lo.set | with_reducible apply Lo.self1 | with_reducible apply Lo.self2)); done) | (with_reducible apply Lo.ne1; (repeat (first | with_reducible assumption | with_reducible apply Lo.self | with_reducible apply Lo.new | with_reducible apply Lo.set | with_reducible apply Lo.self1 | with_reducible apply Lo.self2)); done) | (with_reducible apply Lo.ne'; (repeat (first | with_reducible assumption | with_reducible apply Lo.self | with_reducible apply Lo.new | with_reducible apply Lo.set | with_reducible apply Lo.self1 | with_reducible apply Lo.self2)); done) | (with_reducible apply Lo.ne1'; (repeat (first | with_reducible assumption | with_reducible apply Lo.self | with_reducible apply Lo.new | with_reducible apply Lo.set | with_reducible apply Lo.self1 | with_reducible apply Lo.self2)); done)); done))))); (· exact rfl); (· exact item_part (popX hb)))
            | (apply op_load_at; (· exact rfl); (· exact rfl); (· repeat (first | with_reducible assumption | (with_reducible apply obj_here; with_reducible rfl) | with_reducible apply obj_set | (with_reducible apply obj_skip_lo; (· ((repeat (first | with_reducible assumption | with_reducible apply Lo.self | with_reducible apply Lo.new | with_reducible apply Lo.set | with_reducible apply Lo.self1 | with_reducible apply Lo.self2)); done))) | (with_reducible apply obj_past; (· ((first | with_reducible assumption | with_reducible apply ne_add1 | with_reducible apply ne_add1' | with_reducible apply ne_add2 | with_reducible apply ne_add2' | with_reducible apply ne_add12 | with_reducible apply ne_add21 | (with_reducible apply Lo.ne; (repeat (first | with_reducible assumption | with_reducible apply Lo.self | with_reducible apply Lo.new | with_reducible apply Lo.set | with_reducible apply Lo.self1 | with_reducible apply Lo.self2)); done) | (with_reducible apply Lo.ne1; (repeat (first | with_reducible assumption | with_reducible apply Lo.self | with_reducible apply Lo.new | with_reducible apply Lo.set | with_reducible apply Lo.self1 | with_reducible apply Lo.self2)); done) | (with_reducible apply Lo.ne'; (repeat (first | with_reducible assumption | with_reducible apply Lo.self | with_reducible apply Lo.new | with_reducible apply Lo.set | with_reducible apply Lo.self1 | with_reducible apply Lo.self2)); done) | (with_reducible apply Lo.ne1'; (repeat (first | with_reducible assumption | with_reducible apply Lo.self | with_reducible apply Lo.new | with_reducible apply Lo.set | with_reducible apply Lo.self1 | with_reducible apply Lo.self2)); done)); done))))); (· exact rfl); (· exact rfl))
            | (apply op_store_at; (· exact rfl); (· exact rfl); (· exact rfl); (· repeat (first | with_reducible assumption | (with_reducible apply obj_here; with_reducible rfl) | with_reducible apply obj_set | (with_reducible apply obj_skip_lo; (· ((repeat (first | with_reducible assumption | with_reducible apply Lo.self | with_reducible apply Lo.new | with_reducible apply Lo.set | with_reducible apply Lo.self1 | with_reducible apply Lo.self2)); done))) | (with_reducible apply obj_past; (· ((first | with_reducible assumption | with_reducible apply ne_add1 | with_reducible apply ne_add1' | with_reducible apply ne_add2 | with_reducible apply ne_add2' | with_reducible apply ne_add12 | with_reducible apply ne_add21 | (with_reducible apply Lo.ne; (repeat (first | with_reducible assumption | with_reducible apply Lo.self | with_reducible apply Lo.new | with_reducible apply Lo.set | with_reducible apply Lo.self1 | with_reducible apply Lo.self2)); done) | (with_reducible apply Lo.ne1; (repeat (first | with_reducible assumption | with_reducible apply Lo.self | with_reducible apply Lo.new | with_reducible apply Lo.set | with_reducible apply Lo.self1 | with_reducible apply Lo.self2)); done) | (with_reducible apply Lo.ne'; (repeat (first | with_reducible assumption | with_reducible apply Lo.self | with_reducible apply Lo.new | with_reducible apply Lo.set | with_reducible apply Lo.self1 | with_reducible apply Lo.self2)); done) | (with_reducible apply Lo.ne1'; (repeat (first | with_reducible assumption | with_reducible apply Lo.self | with_reducible apply Lo.new | with_reducible apply Lo.set | with_reducible apply Lo.self1 | with_reducible apply Lo.self2)); done)); done))))); (· exact rfl); (· exact rfl); (· exact rfl))
            | (apply op_at; (· exact opD_eqb rfl rfl rfl rfl))
            | (apply op_at; (· exact opD_neqb rfl rfl rfl rfl))
            | (apply op_at; (· exact rfl))
            | refine dwp_drawc _ rfl ?_
            | apply drawc_nil
            | (apply drawc_read_at; (· exact rfl); (· (first | exact wanted_plain rfl | (apply wanted_on; (· exact rfl); (· exact rfl); (· (first | with_reducible assumption | with_reducible rfl | decide))))); (· exact rfl); (· repeat (first | with_reducible assumption | (with_reducible apply obj_here; with_reducible rfl) | with_reducible apply obj_set | (with_reducible apply obj_skip_lo; (· ((repeat (first | with_reducible assumption | with_reducible apply Lo.self | with_reducible apply Lo.new | with_reducible apply Lo.set | with_reducible apply Lo.self1 | with_reducible apply Lo.self2)); done))) | (with_reducible apply obj_past; (· ((first | with_reducible assumption | with_reducible apply ne_add1 | with_reducible apply ne_add1' | with_reducible apply ne_add2 | with_reducible apply ne_add2' | with_reducible apply ne_add12 | with_reducible apply ne_add21 | (with_reducible apply Lo.ne; (repeat (first | with_reducible assumption | with_reducible apply Lo.self | with_reducible apply Lo.new | with_reducible apply Lo.set | with_reducible apply Lo.self1 | with_reducible apply Lo.self2)); done) | (with_reducible apply Lo.ne1; (repeat (first | with_reducible assumption | with_reducible apply Lo.self | with_reducible apply Lo.new | with_reducible apply Lo.set | with_reducible apply Lo.self1 | with_reducible apply Lo.self2)); done) | (with_reducible apply Lo.ne'; (repeat (first | with_reducible assumption | with_reducible apply Lo.self | with_reducible apply Lo.new | with_reducible apply Lo.set | with_reducible apply Lo.self1 | with_reducible apply Lo.self2)); done) | (with_reducible apply Lo.ne1'; (repeat (first | with_reducible assumption | with_reducible apply Lo.self | with_reducible apply Lo.new | with_reducible apply Lo.set | with_reducible apply Lo.self1 | with_reducible apply Lo.self2)); done)); done))))); (· exact rfl); (· exact rfl); (· decide +kernel))
            | (apply drawc_pick_t; (· (first | exact wanted_plain rfl | (apply wanted_on; (· exact rfl); (· exact rfl); (· (first | with_reducible assumption | with_reducible rfl | decide))))); (· exact rfl); (· exact rfl); (· (first | with_reducible assumption | with_reducible rfl | decide)); (· exact rfl))
            | (apply drawc_pick_f; (· (first | exact wanted_plain rfl | (apply wanted_on; (· exact rfl); (· exact rfl); (· (first | with_reducible assumption | with_reducible rfl | decide))))); (· exact rfl); (· exact rfl); (· (first | with_reducible assumption | with_reducible rfl | decide)); (· exact rfl))
            | (apply drawc_pure; (· (first | exact wanted_plain rfl | (apply wanted_on; (· exact rfl); (· exact rfl); (· (first | with_reducible assumption | with_reducible rfl | decide))))); (· exact rfl); (· exact rfl); (· exact rfl))
            | (apply drawc_read; (· (first | exact wanted_plain rfl | (apply wanted_on; (· exact rfl); (· exact rfl); (· (first | with_reducible assumption | with_reducible rfl | decide))))); (· exact rfl); (· exact rfl); (· decide +kernel); (· exact rfl))
            | (apply drawc_same; (· (first | exact wanted_plain rfl | (apply wanted_on; (· exact rfl); (· exact rfl); (· (first | with_reducible assumption | with_reducible rfl | decide))))); (· exact rfl); (· decide +kernel); (first | (apply op_call; (· exact rfl); (· exact rfl); (· exact rfl); refine (pop_c (⟨_, _, _, rfl, htj.it⟩ : Its _ (.sl q6 hb.length d6 f6) hb) (by omega)).mono ?_; rintro r H2 ⟨ab2, s2, rfl, i2⟩; rw [hE0]; obtain ⟨p2, c2, e2, rfl, it2, if2⟩ := i2; have aaj : ∀ {o o'}, Above Hd ((H2.new o).set H2.next o') := fun {o o'} => hup ab2; have aa2 : ∀ {o o'}, Above H2 ((H2.new o).set H2.next o') := fun {o o'} => hup (Above.refl _); have htc := fun o o' => htj.next (aaj (o := o) (o' := o')) (it2.mono aa2) if2; refine ⟨rfl, ?_⟩)))
            | (apply drawc_sync; (· (first | exact wanted_plain rfl | (apply wanted_on; (· exact rfl); (· exact rfl); (· (first | with_reducible assumption | with_reducible rfl | decide))))); (· exact rfl); (· decide +kernel))
            | (apply drawc_off; (· (first | (apply wanted_off1; (· exact rfl); (· exact rfl); (· (first | with_reducible assumption | with_reducible rfl | decide))) | (apply wanted_off0; (· exact rfl); (· exact rfl); (· (first | with_reducible assumption | with_reducible rfl | decide))) | (apply wanted_none; (· exact rfl); (· exact rfl)))))
            | (apply dwp_cond_t; (· exact rfl); (· (first | with_reducible assumption | with_reducible rfl | decide)))
            | (apply dwp_cond_f; (· exact rfl); (· (first | with_reducible assumption | with_reducible rfl | decide)))
            | (refine dwp_cond rfl ?_ ?_ <;> intro hb)
            | apply dwp_block
            | apply dwp_skip
            | apply dwp_ret
            | apply dwp_exit
            | (refine ⟨_, rfl, ?_⟩)
            | fail)
          exact ⟨⟨_, _, _, _, _, _, _, _, _, junk_facts (⟨ht8, popV_heap hE0, hpn, hlast, hnn⟩) rfl rfl⟩, by show (popV hb).length < hb.length; omega⟩
theorem row4 (H : DH) (hr : RO H) (hw : WF H) (xs : List DV) (hx : TArgs Try.prog H [23, 32] xs) : ∃ k H', callD Try.prog X4 k 4 xs H = some (.bool true, H') := by
  match xs, hx with
  | [a, b], ⟨h1, h2, _⟩ =>
    obtain ⟨p, c, ex, l, rfl, hl, _⟩ := items_in hw h1
    obtain ⟨pp, np, cp, ep, rfl, hpp⟩ := bytes_in hw h2
    obtain ⟨k, r, H', hk, rfl⟩ := (law4 H p pp c np cp ex ep l hl hpp).ex
    exact ⟨k, H', hk⟩
end Go.Det.Q

/- HeapOrders answers true, whatever it is handed; nothing is asked of the arguments but their types. -/
namespace Go.Proofs.Ytpgobchpnjgbdaa.heapOrders
open Go Go.Det Go.Det.Q Go.ChangeShapes Go.WideShapes Go.ChangeAt Go.RowKit
set_option linter.unusedVariables false
set_option linter.unusedSimpArgs false
theorem own : ownKnob Try.prog.godebug = none := by kernel_rfl
theorem laidOut : laidOutB Try.prog = true := by kernel_rfl
set_option maxRecDepth 100000 in
theorem lifted (os : Os) (started : os.Started) (H : Type) (enc : TypeId × Value → H) :
    ReturnsInHanded {} Try.checked os 4 .any (Rows.heapOrdersSpec.pre6 enc Try.prog Try.f4 Rows.heapOrdersRow.domain false) (Rows.heapOrdersSpec.post enc Try.prog Try.f4 false true false false) := by
  exact row_law (C := Try.checked) (X := X4) (ts := [23, 32]) (rt := 4) (n := 5) own started (by kernel_rfl) Try.func4
    (ChangeSpec.witness6 (enc := enc) (C := Try.checked) false ⟨#[], #[.slice none 0 0, .slice none 0 0], []⟩ 8 (by kernel_rfl) (by kernel_rfl) (by kernel_rfl) (by kernel_rfl))
    rfl okX4 rfl Try.params4 rfl Try.underlying4 (by kernel_rfl) (by kernel_rfl) laidOut rfl
    (by intro ds h; match ds, h with | [_, _], _ => rfl)
    (fun H xs hr hw hx => row4 H hr hw xs hx)
theorem over : Rows.heapOrdersRow.holds Try.pinned (OpenSpec.ofChange Rows.heapOrdersSpec) :=
  OpenClaim.holds_of_wide 4 Try.f4 rfl rfl rfl rfl rfl rfl rfl ⟨rfl, rfl, rfl, rfl, rfl⟩ rfl rfl rfl rfl rfl (by kernel_rfl) Try.func4 (by kernel_rfl)
    (of_decide_eq_true (by kernel_rfl)) (by unfold Func.isWrapper; first | (rw [if_pos (by decide +kernel)]; kernel_rfl) | (rw [if_neg (by decide +kernel)]; exact ⟨rfl, rfl⟩))
    (fun os started H enc _ => lifted os started H enc)
theorem proved : Rows.HeapOrdersSaid := over
end Go.Proofs.Ytpgobchpnjgbdaa.heapOrders
namespace Go.Proofs.Ytpgobchpnjgbdaa
/-- The row, under a short name, for the claim. -/
theorem heapOrders_holds : Rows.HeapOrdersSaid := heapOrders.proved
#print axioms heapOrders_holds
end Go.Proofs.Ytpgobchpnjgbdaa
