/- A thing's bytes, copied. -/
import Derived.Test.YtphnddoneocfhaaM6
namespace Go.Det.M11
open Go Go.Det Go.Proofs
set_option maxRecDepth 4000
set_option maxHeartbeats 4000000
set_option linter.unusedVariables false
set_option linter.unusedSimpArgs false

/-- Bytes that may be read: nil, or rows of one cell. -/
def BOk (H : DH) (s : DV) (n : Nat) : Prop := (s = .sl none 0 0 true ∧ n = 0) ∨
  ∃ loc i c ex ro rs, s = .sl (some (loc, i, 1)) n c ex ∧ loc < H.next ∧ H.obj loc = some (.rows ro 1 rs) ∧ i + n ≤ rs.length ∧ ((rs.drop i).take n).all (fun r => r.length == 1 && r.all DV.one) = true

theorem BOk.mono {H H' : DH} (h : Above H H') {s : DV} {n : Nat} (k : BOk H s n) : BOk H' s n := by
  rcases k with k | ⟨loc, i, c, ex, ro, rs, h1, h2, h3, h4, h5⟩
  · exact .inl k
  · exact .inr ⟨loc, i, c, ex, ro, rs, h1, Nat.lt_of_lt_of_le h2 h.le, h.obj h2 h3, h4, h5⟩

theorem BOk.set {H : DH} {p : Option (Nat × Nat × Nat)} {n c : Nat} {ex : Bool} (k : BOk H (.sl p n c ex) n) {m : Nat} (o : Option DObj) (hm : ∀ loc i z, p = some (loc, i, z) → loc ≠ m) : BOk (H.set m o) (.sl p n c ex) n := by
  rcases k with k | ⟨loc, i, c', ex', ro, rs, h1, h2, h3, h4, h5⟩
  · exact .inl k
  · cases h1
    exact .inr ⟨loc, i, _, _, ro, rs, rfl, h2, obj_past (hm _ _ _ rfl) h3, h4, h5⟩

theorem bytes_append {H : DH} {l0 l i n c : Nat} {ex ro0 ro : Bool} {rs0 rs : List (List DV)} (h0 : H.obj l0 = some (.rows ro0 1 rs0)) (ho : H.obj l = some (.rows ro 1 rs)) (hin : i + n ≤ rs.length) (hr : ((rs.drop i).take n).all (fun r => r.length == 1 && r.all DV.one) = true) (hpos : 0 < n) (hn : n ≤ 64) :
    appendD Try.prog 26 (Try.prog.underlying 26) H (.sl (some (l0, 0, 1)) 0 0 true) (.sl (some (l, i, 1)) n c ex) = some (.sl (some (H.next, 0, 1)) n n false, H.new (.rows false 1 ((rs.drop i).take n))) := by
  have hs : sizeT Try.prog 5 = some 1 := by kernel_rfl
  have hb : bytesT Try.prog 5 = some 1 := by kernel_rfl
  have hz : zeroT Try.prog 5 = some (.int .u8 0) := by kernel_rfl
  have hlen : ((rs.drop i).take n).length = n := by rw [List.length_take, List.length_drop]; omega
  have hne : (rs.drop i).take n ≠ [] := by intro e; rw [e] at hlen; simp at hlen; omega
  have hap : appendedD Try.prog 5 H (some (.slice 5)) (.sl (some (l, i, 1)) n c ex) = some ((rs.drop i).take n) := by
    simp only [appendedD, rowsOf, ho]
    rw [if_pos hin]
  rw [Try.underlying26]
  unfold appendD
  rw [Try.underlying26]
  simp only [hs, hb, hz, hap]
  rw [if_pos ⟨by omega, by rfl, by simpa using hr⟩]
  simp only [h0]
  rw [if_neg (by simp), if_neg hne, if_neg (by unfold mostD; omega), if_neg (by omega)]
  simp [hlen]

theorem opD_bytes {H : DH} {cf : CallF} {o : Oper} {x y : Operand} (hop : o.op = .call ⟨.builtin .append, #[x, y], #[26, 26]⟩) {env : List DV} {l0 l i n c : Nat} {ex ro0 ro : Bool} {rs0 rs : List (List DV)} (hx : evalO env x = some (.sl (some (l0, 0, 1)) 0 0 true)) (hy : evalO env y = some (.sl (some (l, i, 1)) n c ex))
    (h0 : H.obj l0 = some (.rows ro0 1 rs0)) (ho : H.obj l = some (.rows ro 1 rs)) (hin : i + n ≤ rs.length) (hr : ((rs.drop i).take n).all (fun r => r.length == 1 && r.all DV.one) = true) (hpos : 0 < n) (hn : n ≤ 64) :
    opD Try.prog cf o env H = some (.sl (some (H.next, 0, 1)) n n false, H.new (.rows false 1 ((rs.drop i).take n))) := by
  have h := bytes_append h0 ho hin hr hpos hn (c := c) (ex := ex)
  simp only [opD, hop, mover, moveD, hx, hy, if_true]
  exact h

theorem opD_bytes0 {H : DH} {cf : CallF} {o : Oper} {x y : Operand} (hop : o.op = .call ⟨.builtin .append, #[x, y], #[26, 26]⟩) {env : List DV} {l0 l i c : Nat} {ex ro0 ro : Bool} {rs0 rs : List (List DV)} (hx : evalO env x = some (.sl (some (l0, 0, 1)) 0 0 true)) (hy : evalO env y = some (.sl (some (l, i, 1)) 0 c ex))
    (h0 : H.obj l0 = some (.rows ro0 1 rs0)) (ho : H.obj l = some (.rows ro 1 rs)) (hin : i + 0 ≤ rs.length) :
    opD Try.prog cf o env H = some (.sl (some (l0, 0, 1)) 0 0 true, H) := by
  have hs : sizeT Try.prog 5 = some 1 := by kernel_rfl
  have hb : bytesT Try.prog 5 = some 1 := by kernel_rfl
  have hz : zeroT Try.prog 5 = some (.int .u8 0) := by kernel_rfl
  have hap : appendedD Try.prog 5 H (some (.slice 5)) (.sl (some (l, i, 1)) 0 c ex) = some [] := by
    simp only [appendedD, rowsOf, ho]
    rw [if_pos hin, List.take_zero]
  simp only [opD, hop, mover, moveD, hx, hy, if_true]
  show appendD Try.prog 26 (Try.prog.underlying 26) H (.sl (some (l0, 0, 1)) 0 0 true) (.sl (some (l, i, 1)) 0 c ex) = _
  rw [Try.underlying26]
  unfold appendD
  rw [Try.underlying26]
  simp only [hs, hb, hz, hap]
  rw [if_pos ⟨by omega, by rfl, by simp⟩]
  simp

theorem clone73 (H : DH) (s : DV) (n : Nat) (hb : BOk H s n) (hn : n ≤ 64) : CallWp Try.prog X3 73 [s] H (fun r H' => Above H H' ∧ BOk H' r n ∧ ∃ p c ex, r = .sl p n c ex ∧ ∀ loc i z, p = some (loc, i, z) → H.next ≤ loc) := by
  rcases hb with ⟨rfl, rfl⟩ | ⟨loc, i, c, ex, ro, rs, rfl, hl, ho, hin, hr⟩
  ·
    refine enter rfl Try.func73 rfl Try.ntmps73 rfl ?_
    dsimp only [List.cons_append, List.nil_append, List.length_cons, List.length_nil, List.replicate_succ, List.replicate_zero, Nat.reduceAdd, Nat.reduceSub]
    repeat' (first
      | refine dwp_seq ?_
      | refine dwp_region ?_
      | refine ops_nil ?_
      | (refine ops_plain rfl ?_; (first | refine op_pick_t rfl rfl (by first | assumption | with_reducible rfl | decide) rfl ?_ | refine op_pick_f rfl rfl (by first | assumption | with_reducible rfl | decide) rfl ?_ | refine op_at (opD_load rfl rfl (by repeat (first | exact obj_here rfl | exact obj_set | assumption | refine obj_skip (by (try simp only [DH.new_next, DH.set_next]); omega) ?_ | refine obj_past (by (try simp only [DH.new_next, DH.set_next]); omega) ?_)) rfl rfl) ?_ | refine op_at (opD_store rfl rfl rfl rfl rfl (by repeat (first | exact obj_here rfl | exact obj_set | assumption | refine obj_skip (by (try simp only [DH.new_next, DH.set_next]); omega) ?_ | refine obj_past (by (try simp only [DH.new_next, DH.set_next]); omega) ?_)) rfl) ?_ | refine op_at (opD_eqb rfl rfl rfl rfl) ?_ | refine op_at (opD_neqb rfl rfl rfl rfl) ?_ | refine op_at rfl ?_); dsimp only [putD, DV.cells, DH.new_next, DH.set_next, List.length_cons, List.length_nil, Nat.reduceAdd, List.set_cons_zero, List.set_cons_succ, getD_zero, getD_succ, fieldAt_zero, fieldAt_succ, thenD, blockD, retR])
      | (refine ops_on rfl rfl (by first | assumption | with_reducible rfl | decide) ?_; (first | refine op_pick_t rfl rfl (by first | assumption | with_reducible rfl | decide) rfl ?_ | refine op_pick_f rfl rfl (by first | assumption | with_reducible rfl | decide) rfl ?_ | refine op_at (opD_load rfl rfl (by repeat (first | exact obj_here rfl | exact obj_set | assumption | refine obj_skip (by (try simp only [DH.new_next, DH.set_next]); omega) ?_ | refine obj_past (by (try simp only [DH.new_next, DH.set_next]); omega) ?_)) rfl rfl) ?_ | refine op_at (opD_store rfl rfl rfl rfl rfl (by repeat (first | exact obj_here rfl | exact obj_set | assumption | refine obj_skip (by (try simp only [DH.new_next, DH.set_next]); omega) ?_ | refine obj_past (by (try simp only [DH.new_next, DH.set_next]); omega) ?_)) rfl) ?_ | refine op_at (opD_eqb rfl rfl rfl rfl) ?_ | refine op_at (opD_neqb rfl rfl rfl rfl) ?_ | refine op_at rfl ?_); dsimp only [putD, DV.cells, DH.new_next, DH.set_next, List.length_cons, List.length_nil, Nat.reduceAdd, List.set_cons_zero, List.set_cons_succ, getD_zero, getD_succ, fieldAt_zero, fieldAt_succ, thenD, blockD, retR])
      | (refine ops_off1 rfl rfl (by first | assumption | with_reducible rfl | decide) ?_; dsimp only [putD, DV.cells, DH.new_next, DH.set_next, List.length_cons, List.length_nil, Nat.reduceAdd, List.set_cons_zero, List.set_cons_succ, getD_zero, getD_succ, fieldAt_zero, fieldAt_succ, thenD, blockD, retR])
      | (refine ops_off0 rfl rfl (by first | assumption | with_reducible rfl | decide) ?_; dsimp only [putD, DV.cells, DH.new_next, DH.set_next, List.length_cons, List.length_nil, Nat.reduceAdd, List.set_cons_zero, List.set_cons_succ, getD_zero, getD_succ, fieldAt_zero, fieldAt_succ, thenD, blockD, retR])
      | (refine ops_split1 rfl rfl ?_ ?_ <;> intro hb)
      | (refine ops_split0 rfl rfl ?_ ?_ <;> intro hb)
      | ((first | refine op_pick_t rfl rfl (by first | assumption | with_reducible rfl | decide) rfl ?_ | refine op_pick_f rfl rfl (by first | assumption | with_reducible rfl | decide) rfl ?_ | refine op_at (opD_load rfl rfl (by repeat (first | exact obj_here rfl | exact obj_set | assumption | refine obj_skip (by (try simp only [DH.new_next, DH.set_next]); omega) ?_ | refine obj_past (by (try simp only [DH.new_next, DH.set_next]); omega) ?_)) rfl rfl) ?_ | refine op_at (opD_store rfl rfl rfl rfl rfl (by repeat (first | exact obj_here rfl | exact obj_set | assumption | refine obj_skip (by (try simp only [DH.new_next, DH.set_next]); omega) ?_ | refine obj_past (by (try simp only [DH.new_next, DH.set_next]); omega) ?_)) rfl) ?_ | refine op_at (opD_eqb rfl rfl rfl rfl) ?_ | refine op_at (opD_neqb rfl rfl rfl rfl) ?_ | refine op_at rfl ?_); dsimp only [putD, DV.cells, DH.new_next, DH.set_next, List.length_cons, List.length_nil, Nat.reduceAdd, List.set_cons_zero, List.set_cons_succ, getD_zero, getD_succ, fieldAt_zero, fieldAt_succ, thenD, blockD, retR])
      | refine dwp_cond_t rfl (by first | assumption | with_reducible rfl | decide) ?_
      | refine dwp_cond_f rfl (by first | assumption | with_reducible rfl | decide) ?_
      | (refine dwp_cond rfl ?_ ?_ <;> intro hb)
      | refine dwp_block ?_
      | refine dwp_skip ?_
      | refine dwp_ret ?_
      | refine dwp_exit ?_
      | dsimp only [thenD, blockD, retR]
      | (refine ⟨_, rfl, ?_⟩; try dsimp only)
      | fail)
    all_goals exact ⟨Above.refl H, .inl ⟨rfl, rfl⟩, none, 0, true, rfl, fun _ _ _ h => by cases h⟩
  · rcases Nat.eq_zero_or_pos n with rfl | hpos
    ·
      refine enter rfl Try.func73 rfl Try.ntmps73 rfl ?_
      dsimp only [List.cons_append, List.nil_append, List.length_cons, List.length_nil, List.replicate_succ, List.replicate_zero, Nat.reduceAdd, Nat.reduceSub]
      repeat' (first
        | refine dwp_seq ?_
        | refine dwp_region ?_
        | refine ops_nil ?_
        | (refine ops_plain rfl ?_; (first | refine op_pick_t rfl rfl (by first | assumption | with_reducible rfl | decide) rfl ?_ | refine op_pick_f rfl rfl (by first | assumption | with_reducible rfl | decide) rfl ?_ | refine op_at (opD_bytes0 rfl rfl rfl (by repeat (first | exact obj_here rfl | exact obj_set | assumption | refine obj_skip (by (try simp only [DH.new_next, DH.set_next]); omega) ?_ | refine obj_past (by (try simp only [DH.new_next, DH.set_next]); omega) ?_)) (by repeat (first | exact obj_here rfl | assumption | refine obj_skip (by (try simp only [DH.new_next]); omega) ?_)) hin) ?_ | refine op_at (opD_load rfl rfl (by repeat (first | exact obj_here rfl | exact obj_set | assumption | refine obj_skip (by (try simp only [DH.new_next, DH.set_next]); omega) ?_ | refine obj_past (by (try simp only [DH.new_next, DH.set_next]); omega) ?_)) rfl rfl) ?_ | refine op_at (opD_store rfl rfl rfl rfl rfl (by repeat (first | exact obj_here rfl | exact obj_set | assumption | refine obj_skip (by (try simp only [DH.new_next, DH.set_next]); omega) ?_ | refine obj_past (by (try simp only [DH.new_next, DH.set_next]); omega) ?_)) rfl) ?_ | refine op_at (opD_eqb rfl rfl rfl rfl) ?_ | refine op_at (opD_neqb rfl rfl rfl rfl) ?_ | refine op_at rfl ?_); dsimp only [putD, DV.cells, DH.new_next, DH.set_next, List.length_cons, List.length_nil, Nat.reduceAdd, List.set_cons_zero, List.set_cons_succ, getD_zero, getD_succ, fieldAt_zero, fieldAt_succ, thenD, blockD, retR])
        | (refine ops_on rfl rfl (by first | assumption | with_reducible rfl | decide) ?_; (first | refine op_pick_t rfl rfl (by first | assumption | with_reducible rfl | decide) rfl ?_ | refine op_pick_f rfl rfl (by first | assumption | with_reducible rfl | decide) rfl ?_ | refine op_at (opD_bytes0 rfl rfl rfl (by repeat (first | exact obj_here rfl | exact obj_set | assumption | refine obj_skip (by (try simp only [DH.new_next, DH.set_next]); omega) ?_ | refine obj_past (by (try simp only [DH.new_next, DH.set_next]); omega) ?_)) (by repeat (first | exact obj_here rfl | assumption | refine obj_skip (by (try simp only [DH.new_next]); omega) ?_)) hin) ?_ | refine op_at (opD_load rfl rfl (by repeat (first | exact obj_here rfl | exact obj_set | assumption | refine obj_skip (by (try simp only [DH.new_next, DH.set_next]); omega) ?_ | refine obj_past (by (try simp only [DH.new_next, DH.set_next]); omega) ?_)) rfl rfl) ?_ | refine op_at (opD_store rfl rfl rfl rfl rfl (by repeat (first | exact obj_here rfl | exact obj_set | assumption | refine obj_skip (by (try simp only [DH.new_next, DH.set_next]); omega) ?_ | refine obj_past (by (try simp only [DH.new_next, DH.set_next]); omega) ?_)) rfl) ?_ | refine op_at (opD_eqb rfl rfl rfl rfl) ?_ | refine op_at (opD_neqb rfl rfl rfl rfl) ?_ | refine op_at rfl ?_); dsimp only [putD, DV.cells, DH.new_next, DH.set_next, List.length_cons, List.length_nil, Nat.reduceAdd, List.set_cons_zero, List.set_cons_succ, getD_zero, getD_succ, fieldAt_zero, fieldAt_succ, thenD, blockD, retR])
        | (refine ops_off1 rfl rfl (by first | assumption | with_reducible rfl | decide) ?_; dsimp only [putD, DV.cells, DH.new_next, DH.set_next, List.length_cons, List.length_nil, Nat.reduceAdd, List.set_cons_zero, List.set_cons_succ, getD_zero, getD_succ, fieldAt_zero, fieldAt_succ, thenD, blockD, retR])
        | (refine ops_off0 rfl rfl (by first | assumption | with_reducible rfl | decide) ?_; dsimp only [putD, DV.cells, DH.new_next, DH.set_next, List.length_cons, List.length_nil, Nat.reduceAdd, List.set_cons_zero, List.set_cons_succ, getD_zero, getD_succ, fieldAt_zero, fieldAt_succ, thenD, blockD, retR])
        | (refine ops_split1 rfl rfl ?_ ?_ <;> intro hb)
        | (refine ops_split0 rfl rfl ?_ ?_ <;> intro hb)
        | ((first | refine op_pick_t rfl rfl (by first | assumption | with_reducible rfl | decide) rfl ?_ | refine op_pick_f rfl rfl (by first | assumption | with_reducible rfl | decide) rfl ?_ | refine op_at (opD_bytes0 rfl rfl rfl (by repeat (first | exact obj_here rfl | exact obj_set | assumption | refine obj_skip (by (try simp only [DH.new_next, DH.set_next]); omega) ?_ | refine obj_past (by (try simp only [DH.new_next, DH.set_next]); omega) ?_)) (by repeat (first | exact obj_here rfl | assumption | refine obj_skip (by (try simp only [DH.new_next]); omega) ?_)) hin) ?_ | refine op_at (opD_load rfl rfl (by repeat (first | exact obj_here rfl | exact obj_set | assumption | refine obj_skip (by (try simp only [DH.new_next, DH.set_next]); omega) ?_ | refine obj_past (by (try simp only [DH.new_next, DH.set_next]); omega) ?_)) rfl rfl) ?_ | refine op_at (opD_store rfl rfl rfl rfl rfl (by repeat (first | exact obj_here rfl | exact obj_set | assumption | refine obj_skip (by (try simp only [DH.new_next, DH.set_next]); omega) ?_ | refine obj_past (by (try simp only [DH.new_next, DH.set_next]); omega) ?_)) rfl) ?_ | refine op_at (opD_eqb rfl rfl rfl rfl) ?_ | refine op_at (opD_neqb rfl rfl rfl rfl) ?_ | refine op_at rfl ?_); dsimp only [putD, DV.cells, DH.new_next, DH.set_next, List.length_cons, List.length_nil, Nat.reduceAdd, List.set_cons_zero, List.set_cons_succ, getD_zero, getD_succ, fieldAt_zero, fieldAt_succ, thenD, blockD, retR])
        | refine dwp_cond_t rfl (by first | assumption | with_reducible rfl | decide) ?_
        | refine dwp_cond_f rfl (by first | assumption | with_reducible rfl | decide) ?_
        | (refine dwp_cond rfl ?_ ?_ <;> intro hb)
        | refine dwp_block ?_
        | refine dwp_skip ?_
        | refine dwp_ret ?_
        | refine dwp_exit ?_
        | dsimp only [thenD, blockD, retR]
        | (refine ⟨_, rfl, ?_⟩; try dsimp only)
        | fail)
      all_goals exact ⟨(Above.refl H).new _, .inr ⟨H.next, 0, 0, true, false, _, rfl, Nat.lt_succ_self _, obj_here rfl, by simp, by simp⟩, _, _, _, rfl, fun _ _ _ h => by cases h; exact Nat.le_refl _⟩
    ·
      refine enter rfl Try.func73 rfl Try.ntmps73 rfl ?_
      dsimp only [List.cons_append, List.nil_append, List.length_cons, List.length_nil, List.replicate_succ, List.replicate_zero, Nat.reduceAdd, Nat.reduceSub]
      repeat' (first
        | refine dwp_seq ?_
        | refine dwp_region ?_
        | refine ops_nil ?_
        | (refine ops_plain rfl ?_; (first | refine op_pick_t rfl rfl (by first | assumption | with_reducible rfl | decide) rfl ?_ | refine op_pick_f rfl rfl (by first | assumption | with_reducible rfl | decide) rfl ?_ | refine op_at (opD_bytes rfl rfl rfl (by repeat (first | exact obj_here rfl | exact obj_set | assumption | refine obj_skip (by (try simp only [DH.new_next, DH.set_next]); omega) ?_ | refine obj_past (by (try simp only [DH.new_next, DH.set_next]); omega) ?_)) (by repeat (first | exact obj_here rfl | assumption | refine obj_skip (by (try simp only [DH.new_next]); omega) ?_)) hin hr hpos hn) ?_ | refine op_at (opD_load rfl rfl (by repeat (first | exact obj_here rfl | exact obj_set | assumption | refine obj_skip (by (try simp only [DH.new_next, DH.set_next]); omega) ?_ | refine obj_past (by (try simp only [DH.new_next, DH.set_next]); omega) ?_)) rfl rfl) ?_ | refine op_at (opD_store rfl rfl rfl rfl rfl (by repeat (first | exact obj_here rfl | exact obj_set | assumption | refine obj_skip (by (try simp only [DH.new_next, DH.set_next]); omega) ?_ | refine obj_past (by (try simp only [DH.new_next, DH.set_next]); omega) ?_)) rfl) ?_ | refine op_at (opD_eqb rfl rfl rfl rfl) ?_ | refine op_at (opD_neqb rfl rfl rfl rfl) ?_ | refine op_at rfl ?_); dsimp only [putD, DV.cells, DH.new_next, DH.set_next, List.length_cons, List.length_nil, Nat.reduceAdd, List.set_cons_zero, List.set_cons_succ, getD_zero, getD_succ, fieldAt_zero, fieldAt_succ, thenD, blockD, retR])
        | (refine ops_on rfl rfl (by first | assumption | with_reducible rfl | decide) ?_; (first | refine op_pick_t rfl rfl (by first | assumption | with_reducible rfl | decide) rfl ?_ | refine op_pick_f rfl rfl (by first | assumption | with_reducible rfl | decide) rfl ?_ | refine op_at (opD_bytes rfl rfl rfl (by repeat (first | exact obj_here rfl | exact obj_set | assumption | refine obj_skip (by (try simp only [DH.new_next, DH.set_next]); omega) ?_ | refine obj_past (by (try simp only [DH.new_next, DH.set_next]); omega) ?_)) (by repeat (first | exact obj_here rfl | assumption | refine obj_skip (by (try simp only [DH.new_next]); omega) ?_)) hin hr hpos hn) ?_ | refine op_at (opD_load rfl rfl (by repeat (first | exact obj_here rfl | exact obj_set | assumption | refine obj_skip (by (try simp only [DH.new_next, DH.set_next]); omega) ?_ | refine obj_past (by (try simp only [DH.new_next, DH.set_next]); omega) ?_)) rfl rfl) ?_ | refine op_at (opD_store rfl rfl rfl rfl rfl (by repeat (first | exact obj_here rfl | exact obj_set | assumption | refine obj_skip (by (try simp only [DH.new_next, DH.set_next]); omega) ?_ | refine obj_past (by (try simp only [DH.new_next, DH.set_next]); omega) ?_)) rfl) ?_ | refine op_at (opD_eqb rfl rfl rfl rfl) ?_ | refine op_at (opD_neqb rfl rfl rfl rfl) ?_ | refine op_at rfl ?_); dsimp only [putD, DV.cells, DH.new_next, DH.set_next, List.length_cons, List.length_nil, Nat.reduceAdd, List.set_cons_zero, List.set_cons_succ, getD_zero, getD_succ, fieldAt_zero, fieldAt_succ, thenD, blockD, retR])
        | (refine ops_off1 rfl rfl (by first | assumption | with_reducible rfl | decide) ?_; dsimp only [putD, DV.cells, DH.new_next, DH.set_next, List.length_cons, List.length_nil, Nat.reduceAdd, List.set_cons_zero, List.set_cons_succ, getD_zero, getD_succ, fieldAt_zero, fieldAt_succ, thenD, blockD, retR])
        | (refine ops_off0 rfl rfl (by first | assumption | with_reducible rfl | decide) ?_; dsimp only [putD, DV.cells, DH.new_next, DH.set_next, List.length_cons, List.length_nil, Nat.reduceAdd, List.set_cons_zero, List.set_cons_succ, getD_zero, getD_succ, fieldAt_zero, fieldAt_succ, thenD, blockD, retR])
        | (refine ops_split1 rfl rfl ?_ ?_ <;> intro hb)
        | (refine ops_split0 rfl rfl ?_ ?_ <;> intro hb)
        | ((first | refine op_pick_t rfl rfl (by first | assumption | with_reducible rfl | decide) rfl ?_ | refine op_pick_f rfl rfl (by first | assumption | with_reducible rfl | decide) rfl ?_ | refine op_at (opD_bytes rfl rfl rfl (by repeat (first | exact obj_here rfl | exact obj_set | assumption | refine obj_skip (by (try simp only [DH.new_next, DH.set_next]); omega) ?_ | refine obj_past (by (try simp only [DH.new_next, DH.set_next]); omega) ?_)) (by repeat (first | exact obj_here rfl | assumption | refine obj_skip (by (try simp only [DH.new_next]); omega) ?_)) hin hr hpos hn) ?_ | refine op_at (opD_load rfl rfl (by repeat (first | exact obj_here rfl | exact obj_set | assumption | refine obj_skip (by (try simp only [DH.new_next, DH.set_next]); omega) ?_ | refine obj_past (by (try simp only [DH.new_next, DH.set_next]); omega) ?_)) rfl rfl) ?_ | refine op_at (opD_store rfl rfl rfl rfl rfl (by repeat (first | exact obj_here rfl | exact obj_set | assumption | refine obj_skip (by (try simp only [DH.new_next, DH.set_next]); omega) ?_ | refine obj_past (by (try simp only [DH.new_next, DH.set_next]); omega) ?_)) rfl) ?_ | refine op_at (opD_eqb rfl rfl rfl rfl) ?_ | refine op_at (opD_neqb rfl rfl rfl rfl) ?_ | refine op_at rfl ?_); dsimp only [putD, DV.cells, DH.new_next, DH.set_next, List.length_cons, List.length_nil, Nat.reduceAdd, List.set_cons_zero, List.set_cons_succ, getD_zero, getD_succ, fieldAt_zero, fieldAt_succ, thenD, blockD, retR])
        | refine dwp_cond_t rfl (by first | assumption | with_reducible rfl | decide) ?_
        | refine dwp_cond_f rfl (by first | assumption | with_reducible rfl | decide) ?_
        | (refine dwp_cond rfl ?_ ?_ <;> intro hb)
        | refine dwp_block ?_
        | refine dwp_skip ?_
        | refine dwp_ret ?_
        | refine dwp_exit ?_
        | dsimp only [thenD, blockD, retR]
        | (refine ⟨_, rfl, ?_⟩; try dsimp only)
        | fail)
      all_goals refine ⟨((Above.refl H).new _).new _, .inr ⟨H.next + 1, 0, n, false, false, _, rfl, Nat.lt_succ_self _, obj_here rfl, ?_, ?_⟩, _, _, _, rfl, fun _ _ _ h => by cases h; exact Nat.le_succ _⟩
      · rw [List.length_take, List.length_drop]; omega
      · rw [List.drop_zero, List.take_take, Nat.min_self]; exact hr

end Go.Det.M11
