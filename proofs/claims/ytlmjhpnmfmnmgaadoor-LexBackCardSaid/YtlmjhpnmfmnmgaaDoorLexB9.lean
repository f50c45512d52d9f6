/- The cutter: a rune is taken; the place behind it. -/
import Derived.Test.YtlmjhpnmfmnmgaaDoorLexB8
namespace Go.Det.C
open Go Go.Det Go.Proofs
set_option maxRecDepth 4000
set_option maxHeartbeats 4000000
set_option linter.unusedVariables false
set_option linter.unusedSimpArgs false
noncomputable def Cu.take (c : Cu) (p : Int × Int) (r : Int) : Cu :=
  if c.remark = true ∧ r ≠ 10 then c
  else if isLet r = true ∨ isDgt r = true then { c with remark := false, at' := if c.piece = [] then p else c.at', piece := c.piece ++ [UInt8.ofNat r.toNat] }
  else let c1 := Cu.fin { c with remark := false }
    if r = 32 ∨ r = 9 ∨ r = 10 then c1
    else if r = 35 then { c1 with remark := true }
    else if r = 59 ∨ r = 123 ∨ r = 125 then c1.add ⟨3, [UInt8.ofNat r.toNat], 0, false⟩ p
    else if r = 45 then { c1 with piece := c1.piece ++ [45], at' := p }
    else c1.fail p 4
def nextP (p : Int × Int) (r : Int) : Int × Int := if r = 10 then (p.1 + 1, 1) else (p.1, p.2 + 1)
theorem fail_same (c : Cu) (p : Int × Int) (e : Int) : (c.fail p e).toks = c.toks ∧ (c.fail p e).places = c.places ∧ (c.fail p e).piece = c.piece ∧ (c.fail p e).remark = c.remark := by
  unfold Cu.fail; split <;> exact ⟨rfl, rfl, rfl, rfl⟩
theorem fin_len (c : Cu) : c.fin.toks.length ≤ c.toks.length + 1 ∧ c.fin.places.length ≤ c.places.length + 1 ∧ c.fin.piece = [] ∧ c.fin.remark = c.remark := by
  unfold Cu.fin
  split
  · exact ⟨Nat.le_succ _, Nat.le_succ _, rfl, rfl⟩
  · split
    · have h : ∀ d : Cu, d.toks = c.toks → d.places = c.places → d.piece = [] → d.remark = c.remark → ∀ t p, (d.add t p).toks.length ≤ c.toks.length + 1 ∧ (d.add t p).places.length ≤ c.places.length + 1 ∧ (d.add t p).piece = [] ∧ (d.add t p).remark = c.remark := by
        intro d h1 h2 h3 h4 t p
        unfold Cu.add
        simp [h1, h2, h3, h4]
      split
      · exact h c.cut rfl rfl rfl rfl _ _
      · obtain ⟨k1, k2, k3, k4⟩ := fail_same c.cut c.at' (numF c.piece).e
        exact h _ k1 k2 k3 k4 _ _
    · split
      · obtain ⟨k1, k2, k3, k4⟩ := fail_same c.cut c.at' 6
        rw [k1, k2, k3, k4]
        exact ⟨Nat.le_succ _, Nat.le_succ _, rfl, rfl⟩
      · unfold Cu.add Cu.cut
        simp
theorem own_len {z : Nat} {R : List (List DV)} {s : Sv} {bx : List (Nat × DObj)} (h : Own1 z R s.dv bx) : s.n = R.length := by
  obtain ⟨p, n, c, ex⟩ := s
  unfold Sv.dv at h
  dsimp only at h ⊢
  generalize hd : DV.sl p n c ex = d at h
  cases h with
  | nil h => cases hd; subst h; rfl
  | «at» h1 h2 h3 => cases hd; rfl
section
variable {A H : DH} {bc : Nat} {c : Cu} {rest : List (Nat × DObj)} {fs : List (DH → Prop)} {K : DV → DH → Prop}
theorem take56 {p1 p2 r : Int} (hr : 0 ≤ r) (h1 : c.toks.length + 1 ≤ 900000) (h2 : c.places.length + 1 ≤ 900000) (h3 : c.piece.length ≤ 65536) (hR : Rep A H bc c rest fs) (hk : ∀ r' H', Rep A H' bc (c.take (p1, p2) r) rest fs → K r' H') : CallWp Tryd.prog X3 56 [.ptr (some (bc, 0, 0)), .agg [.int .i64 p1, .int .i64 p2], .int .i32 r] H K := by
  obtain ⟨toks, places, piece, ⟨a1, a2⟩, remark, ⟨w1, w2⟩, e⟩ := c
  obtain ⟨s1, s2, s3, x1, x2, x3, o1, o2, o3, hB⟩ := hR.ex
  dsimp only at h1 h2 h3 hk o1 o2 o3 hB
  by_cases hA : remark = true ∧ r ≠ 10
  · obtain ⟨rfl, hA2⟩ := hA
    have hA3 : (r != 10) = true := by simpa using hA2
    have ef : Cu.take ⟨toks, places, piece, (a1, a2), true, (w1, w2), e⟩ (p1, p2) r = ⟨toks, places, piece, (a1, a2), true, (w1, w2), e⟩ := by unfold Cu.take; rw [if_pos ⟨rfl, hA2⟩]
    rw [ef] at hk
    refine enter rfl Tryd.func56 rfl Tryd.ntmps56 rfl ?_
    dsimp only [List.cons_append, List.nil_append, List.length_cons, List.length_nil, List.replicate_succ, List.replicate_zero, Nat.reduceAdd, Nat.reduceSub]
    repeat' (first
      | dsimp only [putD, DV.cells, DH.new_next, DH.set_next, List.length_cons, List.length_nil, Nat.reduceAdd, List.set_cons_zero, List.set_cons_succ, getD_zero, getD_succ, fieldAt_zero, fieldAt_succ, thenD, blockD, retR]
      | apply dwp_seq
      | apply dwp_region
      | apply ops_nil
      | (apply ops_plain; (· exact rfl))
      | (apply ops_on; (· exact rfl); (· exact rfl); (· (first | with_reducible assumption | with_reducible rfl | decide)))
      | (apply op_pick_t; (· exact rfl); (· exact rfl); (· (first | with_reducible assumption | with_reducible rfl | decide)); (· exact rfl))
      | (apply bx_load0; (· exact rfl); (· exact rfl); (· assumption); (· (repeat (first | with_reducible exact At.here | with_reducible apply At.there | with_reducible apply at_app))); (· (first | exact part57 _ _ _ _ | exact part49 _ _ | exact part49a _ _ _ _ _ _ _ _ _ | exact part49w _ _ _ _ _ _ _ _ _ | exact rfl)))
      | (apply bx_store1; (· exact rfl); (· exact rfl); (· exact rfl); (· assumption); (· (first | (dsimp only [putD, DV.cells, DH.new_next, DH.set_next, List.length_cons, List.length_nil, Nat.reduceAdd, List.set_cons_zero, List.set_cons_succ, getD_zero, getD_succ, fieldAt_zero, fieldAt_succ, thenD, blockD, retR, Sv.cells]; done) | (dsimp only [putD, DV.cells, DH.new_next, DH.set_next, List.length_cons, List.length_nil, Nat.reduceAdd, List.set_cons_zero, List.set_cons_succ, getD_zero, getD_succ, fieldAt_zero, fieldAt_succ, thenD, blockD, retR, Sv.cells]; exact rfl) | exact rfl)); (· (repeat (first | with_reducible exact At.here | with_reducible apply At.there | with_reducible apply at_app))); (· (first | (dsimp only [splice, List.take_zero, List.take_succ_cons, List.length_cons, List.length_nil, Nat.reduceAdd, Nat.zero_add, List.drop_zero, List.drop_succ_cons, List.drop_nil, List.nil_append, List.cons_append, List.append_nil, List.take_nil]; done) | (dsimp only [splice, List.take_zero, List.take_succ_cons, List.length_cons, List.length_nil, Nat.reduceAdd, Nat.zero_add, List.drop_zero, List.drop_succ_cons, List.drop_nil, List.nil_append, List.cons_append, List.append_nil, List.take_nil]; exact rfl) | exact rfl)); (· (repeat (first | with_reducible exact Upd.here | with_reducible apply Upd.there))); (· exact Nat.le_of_ble_eq_true rfl); (· exact rfl); (· exact rfl); (· exact rfl); intro H1 hB)
      | (apply bx_box; (· exact rfl); (· exact rfl); (· (first | (dsimp only [putD, DV.cells, DH.new_next, DH.set_next, List.length_cons, List.length_nil, Nat.reduceAdd, List.set_cons_zero, List.set_cons_succ, getD_zero, getD_succ, fieldAt_zero, fieldAt_succ, thenD, blockD, retR, Sv.cells]; done) | (dsimp only [putD, DV.cells, DH.new_next, DH.set_next, List.length_cons, List.length_nil, Nat.reduceAdd, List.set_cons_zero, List.set_cons_succ, getD_zero, getD_succ, fieldAt_zero, fieldAt_succ, thenD, blockD, retR, Sv.cells]; exact rfl) | exact rfl)); (· exact rfl); (· exact rfl); (· assumption); intro b1 H1 hB)
      | (apply op_at; (· exact rfl))
      | (apply dwp_cond_t; (· exact rfl); (· (first | with_reducible assumption | with_reducible rfl | decide)))
      | apply dwp_ret
      | (refine ⟨_, rfl, ?_⟩)
      | fail)
    rw [hA3] at hB
    exact hk _ _ ⟨s1, s2, s3, x1, x2, x3, o1, o2, o3, hB.drop1⟩
  · have hA1 : (remark = true ∧ (r != 10) = false) ∨ remark = false := by
      cases remark with
      | false => exact .inr rfl
      | true => exact .inl ⟨rfl, by simpa using hA⟩
    have ef0 : Cu.take ⟨toks, places, piece, (a1, a2), remark, (w1, w2), e⟩ (p1, p2) r = Cu.take ⟨toks, places, piece, (a1, a2), false, (w1, w2), e⟩ (p1, p2) r := by
      unfold Cu.take; rw [if_neg hA]; simp only [Bool.false_eq_true, false_and, if_false]
    rw [ef0] at hk
    refine enter rfl Tryd.func56 rfl Tryd.ntmps56 rfl ?_
    dsimp only [List.cons_append, List.nil_append, List.length_cons, List.length_nil, List.replicate_succ, List.replicate_zero, Nat.reduceAdd, Nat.reduceSub]
    repeat' (first
      | dsimp only [putD, DV.cells, DH.new_next, DH.set_next, List.length_cons, List.length_nil, Nat.reduceAdd, List.set_cons_zero, List.set_cons_succ, getD_zero, getD_succ, fieldAt_zero, fieldAt_succ, thenD, blockD, retR]
      | (refine dwp_cutAt (id := 1) (fun st => ∃ (b4 : Nat) (H1 : DH), ∃ J : Nat → DV, (Bx A H1 ([(b4, .rows false 2 [[.int .i64 p1, .int .i64 p2]]), (bc, .rows false 9 [[s1.dv, s2.dv, s3.dv, .int .i64 a1, .int .i64 a2, .bool false, .int .i64 w1, .int .i64 w2, .int .i64 e]])] ++ (x1 ++ (x2 ++ (x3 ++ rest)))) fs) ∧ st = ⟨(.ptr (some (bc, 0, 0)) :: .agg [.int .i64 p1, .int .i64 p2] :: .int .i32 r :: J 3 :: .ptr (some (b4, 0, 0)) :: J 5 :: J 6 :: J 7 :: J 8 :: J 9 :: J 10 :: J 11 :: J 12 :: J 13 :: J 14 :: J 15 :: J 16 :: J 17 :: J 18 :: J 19 :: J 20 :: J 21 :: J 22 :: J 23 :: J 24 :: J 25 :: J 26 :: J 27 :: J 28 :: J 29 :: J 30 :: J 31 :: J 32 :: J 33 :: J 34 :: J 35 :: J 36 :: J 37 :: J 38 :: J 39 :: J 40 :: J 41 :: J 42 :: J 43 :: J 44 :: J 45 :: J 46 :: J 47 :: J 48 :: J 49 :: J 50 :: J 51 :: J 52 :: J 53 :: J 54 :: J 55 :: J 56 :: J 57 :: J 58 :: J 59 :: J 60 :: J 61 :: J 62 :: J 63 :: J 64 :: J 65 :: J 66 :: J 67 :: J 68 :: J 69 :: J 70 :: J 71 :: J 72 :: J 73 :: J 74 :: J 75 :: J 76 :: J 77 :: J 78 :: J 79 :: J 80 :: J 81 :: J 82 :: J 83 :: J 84 :: J 85 :: J 86 :: J 87 :: []), H1⟩) ?_ ?_)
      | apply dwp_seq
      | apply dwp_region
      | apply ops_nil
      | (apply ops_plain; (· exact rfl))
      | (apply bx_box; (· exact rfl); (· exact rfl); (· (first | (dsimp only [putD, DV.cells, DH.new_next, DH.set_next, List.length_cons, List.length_nil, Nat.reduceAdd, List.set_cons_zero, List.set_cons_succ, getD_zero, getD_succ, fieldAt_zero, fieldAt_succ, thenD, blockD, retR, Sv.cells]; done) | (dsimp only [putD, DV.cells, DH.new_next, DH.set_next, List.length_cons, List.length_nil, Nat.reduceAdd, List.set_cons_zero, List.set_cons_succ, getD_zero, getD_succ, fieldAt_zero, fieldAt_succ, thenD, blockD, retR, Sv.cells]; exact rfl) | exact rfl)); (· exact rfl); (· exact rfl); (· assumption); intro b1 H1 hB)
      | fail)
    · refine ⟨?_⟩
      rcases hA1 with ⟨rfl, hA2⟩ | rfl
      · skip
        repeat' (first
          | dsimp only [putD, DV.cells, DH.new_next, DH.set_next, List.length_cons, List.length_nil, Nat.reduceAdd, List.set_cons_zero, List.set_cons_succ, getD_zero, getD_succ, fieldAt_zero, fieldAt_succ, thenD, blockD, retR]
          | apply dwp_region
          | apply ops_nil
          | (apply ops_plain; (· exact rfl))
          | (apply ops_on; (· exact rfl); (· exact rfl); (· (first | with_reducible assumption | with_reducible rfl | decide)))
          | (apply op_pick_t; (· exact rfl); (· exact rfl); (· (first | with_reducible assumption | with_reducible rfl | decide)); (· exact rfl))
          | (apply bx_load0; (· exact rfl); (· exact rfl); (· assumption); (· (repeat (first | with_reducible exact At.here | with_reducible apply At.there | with_reducible apply at_app))); (· (first | exact part57 _ _ _ _ | exact part49 _ _ | exact part49a _ _ _ _ _ _ _ _ _ | exact part49w _ _ _ _ _ _ _ _ _ | exact rfl)))
          | (apply bx_store1; (· exact rfl); (· exact rfl); (· exact rfl); (· assumption); (· (first | (dsimp only [putD, DV.cells, DH.new_next, DH.set_next, List.length_cons, List.length_nil, Nat.reduceAdd, List.set_cons_zero, List.set_cons_succ, getD_zero, getD_succ, fieldAt_zero, fieldAt_succ, thenD, blockD, retR, Sv.cells]; done) | (dsimp only [putD, DV.cells, DH.new_next, DH.set_next, List.length_cons, List.length_nil, Nat.reduceAdd, List.set_cons_zero, List.set_cons_succ, getD_zero, getD_succ, fieldAt_zero, fieldAt_succ, thenD, blockD, retR, Sv.cells]; exact rfl) | exact rfl)); (· (repeat (first | with_reducible exact At.here | with_reducible apply At.there | with_reducible apply at_app))); (· (first | (dsimp only [splice, List.take_zero, List.take_succ_cons, List.length_cons, List.length_nil, Nat.reduceAdd, Nat.zero_add, List.drop_zero, List.drop_succ_cons, List.drop_nil, List.nil_append, List.cons_append, List.append_nil, List.take_nil]; done) | (dsimp only [splice, List.take_zero, List.take_succ_cons, List.length_cons, List.length_nil, Nat.reduceAdd, Nat.zero_add, List.drop_zero, List.drop_succ_cons, List.drop_nil, List.nil_append, List.cons_append, List.append_nil, List.take_nil]; exact rfl) | exact rfl)); (· (repeat (first | with_reducible exact Upd.here | with_reducible apply Upd.there))); (· exact Nat.le_of_ble_eq_true rfl); (· exact rfl); (· exact rfl); (· exact rfl); intro H1 hB)
          | (apply op_at; (· exact rfl))
          | fail)
        rw [hA2] at hB
        exact ⟨rfl, _, _, junk_facts hB rfl rfl⟩
      · skip
        repeat' (first
          | dsimp only [putD, DV.cells, DH.new_next, DH.set_next, List.length_cons, List.length_nil, Nat.reduceAdd, List.set_cons_zero, List.set_cons_succ, getD_zero, getD_succ, fieldAt_zero, fieldAt_succ, thenD, blockD, retR]
          | apply dwp_region
          | apply ops_nil
          | (apply ops_plain; (· exact rfl))
          | (apply ops_off1; (· exact rfl); (· exact rfl); (· (first | with_reducible assumption | with_reducible rfl | decide)))
          | (apply op_pick_f; (· exact rfl); (· exact rfl); (· (first | with_reducible assumption | with_reducible rfl | decide)); (· exact rfl))
          | (apply bx_load0; (· exact rfl); (· exact rfl); (· assumption); (· (repeat (first | with_reducible exact At.here | with_reducible apply At.there | with_reducible apply at_app))); (· (first | exact part57 _ _ _ _ | exact part49 _ _ | exact part49a _ _ _ _ _ _ _ _ _ | exact part49w _ _ _ _ _ _ _ _ _ | exact rfl)))
          | (apply bx_store1; (· exact rfl); (· exact rfl); (· exact rfl); (· assumption); (· (first | (dsimp only [putD, DV.cells, DH.new_next, DH.set_next, List.length_cons, List.length_nil, Nat.reduceAdd, List.set_cons_zero, List.set_cons_succ, getD_zero, getD_succ, fieldAt_zero, fieldAt_succ, thenD, blockD, retR, Sv.cells]; done) | (dsimp only [putD, DV.cells, DH.new_next, DH.set_next, List.length_cons, List.length_nil, Nat.reduceAdd, List.set_cons_zero, List.set_cons_succ, getD_zero, getD_succ, fieldAt_zero, fieldAt_succ, thenD, blockD, retR, Sv.cells]; exact rfl) | exact rfl)); (· (repeat (first | with_reducible exact At.here | with_reducible apply At.there | with_reducible apply at_app))); (· (first | (dsimp only [splice, List.take_zero, List.take_succ_cons, List.length_cons, List.length_nil, Nat.reduceAdd, Nat.zero_add, List.drop_zero, List.drop_succ_cons, List.drop_nil, List.nil_append, List.cons_append, List.append_nil, List.take_nil]; done) | (dsimp only [splice, List.take_zero, List.take_succ_cons, List.length_cons, List.length_nil, Nat.reduceAdd, Nat.zero_add, List.drop_zero, List.drop_succ_cons, List.drop_nil, List.nil_append, List.cons_append, List.append_nil, List.take_nil]; exact rfl) | exact rfl)); (· (repeat (first | with_reducible exact Upd.here | with_reducible apply Upd.there))); (· exact Nat.le_of_ble_eq_true rfl); (· exact rfl); (· exact rfl); (· exact rfl); intro H1 hB)
          | (apply op_at; (· exact rfl))
          | fail)
        exact ⟨rfl, _, _, junk_facts hB rfl rfl⟩
    · rintro st ⟨b4, H1, J, hB, rfl⟩
      try dsimp only [thenD, List.cons_append, List.nil_append] at hB ⊢
      have hn3 : s3.n = piece.length := by rw [own_len o3, rowsB_len]
      cases hLD : (isLet r || isDgt r) with
      | true =>
        have hb48 : 48 ≤ r ∧ r ≤ 122 := by
          unfold isLet isDgt at hLD
          simp at hLD
          omega
        have hu8 : IntKind.u8.wrap r = ((UInt8.ofNat r.toNat).toNat : Int) := by
          have e1 : (UInt8.ofNat r.toNat).toNat = r.toNat := by
            rw [UInt8.toNat_ofNat']; omega
          rw [e1]
          unfold IntKind.wrap
          simp only [IntKind.signed, IntKind.bits]
          simp
          omega
        have hl3 : (rowsB piece).length + 1 ≤ mostD := by rw [rowsB_len]; unfold mostD; omega
        have ef : ∀ q : Int × Int, (if piece = [] then (p1, p2) else (a1, a2)) = q → Cu.take ⟨toks, places, piece, (a1, a2), false, (w1, w2), e⟩ (p1, p2) r = ⟨toks, places, piece ++ [UInt8.ofNat r.toNat], q, false, (w1, w2), e⟩ := by
          intro q hq
          unfold Cu.take
          rw [← hq]
          simp only [Bool.false_eq_true, false_and, if_false]
          rw [if_pos (by simpa using hLD)]
        have hrows : rowsB (piece ++ [UInt8.ofNat r.toNat]) = rowsB piece ++ [[.int .u8 ((UInt8.ofNat r.toNat).toNat : Int)]] := by simp [rowsB]
        cases hpe : ((s3.n : Int) == 0) with
        | true =>
          have hpe' : piece = [] := by
            have : s3.n = 0 := by simpa using hpe
            exact List.length_eq_zero_iff.mp (by omega)
          rw [ef (p1, p2) (if_pos hpe'), ] at hk
          cases hL : isLet r with
          | true =>
            repeat' (first
              | dsimp only [putD, DV.cells, DH.new_next, DH.set_next, List.length_cons, List.length_nil, Nat.reduceAdd, List.set_cons_zero, List.set_cons_succ, getD_zero, getD_succ, fieldAt_zero, fieldAt_succ, thenD, blockD, retR]
              | apply dwp_seq
              | apply dwp_region
              | apply ops_nil
              | (apply ops_plain; (· exact rfl))
              | (apply ops_off0; (· exact rfl); (· exact rfl); (· (first | with_reducible assumption | with_reducible rfl | decide)))
              | (apply op_call; (· exact rfl); (· exact rfl); (· exact rfl); (refine (letter62 _ _).mono ?_; rintro r0 H' ⟨rfl, rfl⟩; rw [hL]))
              | (apply op_pick_t; (· exact rfl); (· exact rfl); (· (first | with_reducible assumption | with_reducible rfl | decide)); (· exact rfl))
              | (apply op_told; (· exact rfl); (· exact congrArg (DV.int _) hu8))
              | (apply bx_build1 et68; (· exact rfl); (· exact rfl); (· exact rfl); (· exact rfl); (· exact rfl); (· decide); (· assumption); intro bn H1 hB)
              | (apply op_append_s; (· exact rfl); (· exact rfl); (· exact rfl); (· exact rfl); (· exact et68); (· exact o3); (· assumption); (· (repeat (first | with_reducible exact Ctx.here | with_reducible apply Ctx.cons | with_reducible apply Ctx.app))); (· exact At.here); (· exact rfl); (· exact rfl); (· assumption); intro t3 y3 H1 q3 hB)
              | (apply bx_load0; (· exact rfl); (· exact rfl); (· assumption); (· (repeat (first | with_reducible exact At.here | with_reducible apply At.there | with_reducible apply at_app))); (· (first | exact part57 _ _ _ _ | exact part49 _ _ | exact part49a _ _ _ _ _ _ _ _ _ | exact part49w _ _ _ _ _ _ _ _ _ | exact rfl)))
              | (apply bx_store1; (· exact rfl); (· exact rfl); (· exact rfl); (· assumption); (· (first | (dsimp only [putD, DV.cells, DH.new_next, DH.set_next, List.length_cons, List.length_nil, Nat.reduceAdd, List.set_cons_zero, List.set_cons_succ, getD_zero, getD_succ, fieldAt_zero, fieldAt_succ, thenD, blockD, retR, Sv.cells]; done) | (dsimp only [putD, DV.cells, DH.new_next, DH.set_next, List.length_cons, List.length_nil, Nat.reduceAdd, List.set_cons_zero, List.set_cons_succ, getD_zero, getD_succ, fieldAt_zero, fieldAt_succ, thenD, blockD, retR, Sv.cells]; exact rfl) | exact rfl)); (· (repeat (first | with_reducible exact At.here | with_reducible apply At.there | with_reducible apply at_app))); (· (first | (dsimp only [splice, List.take_zero, List.take_succ_cons, List.length_cons, List.length_nil, Nat.reduceAdd, Nat.zero_add, List.drop_zero, List.drop_succ_cons, List.drop_nil, List.nil_append, List.cons_append, List.append_nil, List.take_nil]; done) | (dsimp only [splice, List.take_zero, List.take_succ_cons, List.length_cons, List.length_nil, Nat.reduceAdd, Nat.zero_add, List.drop_zero, List.drop_succ_cons, List.drop_nil, List.nil_append, List.cons_append, List.append_nil, List.take_nil]; exact rfl) | exact rfl)); (· (repeat (first | with_reducible exact Upd.here | with_reducible apply Upd.there))); (· exact Nat.le_of_ble_eq_true rfl); (· exact rfl); (· exact rfl); (· exact rfl); intro H1 hB)
              | (apply op_at; (· exact rfl))
              | (apply dwp_cond_t; (· exact rfl); (· (first | with_reducible assumption | with_reducible rfl | decide)))
              | (apply dwp_cond_f; (· exact rfl); (· (first | with_reducible assumption | with_reducible rfl | decide)))
              | apply dwp_skip
              | apply dwp_ret
              | (refine ⟨_, rfl, ?_⟩)
              | fail)
            refine hk _ _ ⟨s1, s2, t3, x1, x2, y3, o1, o2, ?_, (hB.sub (by (repeat (first | exact List.Sublist.refl _ | exact List.nil_sublist _ | apply List.Sublist.cons_cons | apply List.Sublist.cons | apply List.Sublist.append_left | refine List.Sublist.trans ?_ (List.sublist_append_right _ _)))))⟩
            rw [hrows]; exact q3
          | false =>
            have hD : isDgt r = true := by rw [hL] at hLD; simpa using hLD
            repeat' (first
              | dsimp only [putD, DV.cells, DH.new_next, DH.set_next, List.length_cons, List.length_nil, Nat.reduceAdd, List.set_cons_zero, List.set_cons_succ, getD_zero, getD_succ, fieldAt_zero, fieldAt_succ, thenD, blockD, retR]
              | apply dwp_seq
              | apply dwp_region
              | apply ops_nil
              | (apply ops_plain; (· exact rfl))
              | (apply ops_on; (· exact rfl); (· exact rfl); (· (first | with_reducible assumption | with_reducible rfl | decide)))
              | (apply op_call; (· exact rfl); (· exact rfl); (· exact rfl); (refine (letter62 _ _).mono ?_; rintro r0 H' ⟨rfl, rfl⟩; rw [hL]))
              | (apply op_call; (· exact rfl); (· exact rfl); (· exact rfl); (refine (digit63 _ _).mono ?_; rintro r0 H' ⟨rfl, rfl⟩; rw [hD]))
              | (apply op_pick_f; (· exact rfl); (· exact rfl); (· (first | with_reducible assumption | with_reducible rfl | decide)); (· exact rfl))
              | (apply op_told; (· exact rfl); (· exact congrArg (DV.int _) hu8))
              | (apply bx_build1 et68; (· exact rfl); (· exact rfl); (· exact rfl); (· exact rfl); (· exact rfl); (· decide); (· assumption); intro bn H1 hB)
              | (apply op_append_s; (· exact rfl); (· exact rfl); (· exact rfl); (· exact rfl); (· exact et68); (· exact o3); (· assumption); (· (repeat (first | with_reducible exact Ctx.here | with_reducible apply Ctx.cons | with_reducible apply Ctx.app))); (· exact At.here); (· exact rfl); (· exact rfl); (· assumption); intro t3 y3 H1 q3 hB)
              | (apply bx_load0; (· exact rfl); (· exact rfl); (· assumption); (· (repeat (first | with_reducible exact At.here | with_reducible apply At.there | with_reducible apply at_app))); (· (first | exact part57 _ _ _ _ | exact part49 _ _ | exact part49a _ _ _ _ _ _ _ _ _ | exact part49w _ _ _ _ _ _ _ _ _ | exact rfl)))
              | (apply bx_store1; (· exact rfl); (· exact rfl); (· exact rfl); (· assumption); (· (first | (dsimp only [putD, DV.cells, DH.new_next, DH.set_next, List.length_cons, List.length_nil, Nat.reduceAdd, List.set_cons_zero, List.set_cons_succ, getD_zero, getD_succ, fieldAt_zero, fieldAt_succ, thenD, blockD, retR, Sv.cells]; done) | (dsimp only [putD, DV.cells, DH.new_next, DH.set_next, List.length_cons, List.length_nil, Nat.reduceAdd, List.set_cons_zero, List.set_cons_succ, getD_zero, getD_succ, fieldAt_zero, fieldAt_succ, thenD, blockD, retR, Sv.cells]; exact rfl) | exact rfl)); (· (repeat (first | with_reducible exact At.here | with_reducible apply At.there | with_reducible apply at_app))); (· (first | (dsimp only [splice, List.take_zero, List.take_succ_cons, List.length_cons, List.length_nil, Nat.reduceAdd, Nat.zero_add, List.drop_zero, List.drop_succ_cons, List.drop_nil, List.nil_append, List.cons_append, List.append_nil, List.take_nil]; done) | (dsimp only [splice, List.take_zero, List.take_succ_cons, List.length_cons, List.length_nil, Nat.reduceAdd, Nat.zero_add, List.drop_zero, List.drop_succ_cons, List.drop_nil, List.nil_append, List.cons_append, List.append_nil, List.take_nil]; exact rfl) | exact rfl)); (· (repeat (first | with_reducible exact Upd.here | with_reducible apply Upd.there))); (· exact Nat.le_of_ble_eq_true rfl); (· exact rfl); (· exact rfl); (· exact rfl); intro H1 hB)
              | (apply op_at; (· exact rfl))
              | (apply dwp_cond_t; (· exact rfl); (· (first | with_reducible assumption | with_reducible rfl | decide)))
              | (apply dwp_cond_f; (· exact rfl); (· (first | with_reducible assumption | with_reducible rfl | decide)))
              | apply dwp_skip
              | apply dwp_ret
              | (refine ⟨_, rfl, ?_⟩)
              | fail)
            refine hk _ _ ⟨s1, s2, t3, x1, x2, y3, o1, o2, ?_, (hB.sub (by (repeat (first | exact List.Sublist.refl _ | exact List.nil_sublist _ | apply List.Sublist.cons_cons | apply List.Sublist.cons | apply List.Sublist.append_left | refine List.Sublist.trans ?_ (List.sublist_append_right _ _)))))⟩
            rw [hrows]; exact q3
        | false =>
          have hpe' : ¬ piece = [] := by
            intro h
            subst h
            rw [hn3] at hpe
            cases hpe
          rw [ef (a1, a2) (if_neg hpe')] at hk
          cases hL : isLet r with
          | true =>
            repeat' (first
              | dsimp only [putD, DV.cells, DH.new_next, DH.set_next, List.length_cons, List.length_nil, Nat.reduceAdd, List.set_cons_zero, List.set_cons_succ, getD_zero, getD_succ, fieldAt_zero, fieldAt_succ, thenD, blockD, retR]
              | apply dwp_seq
              | apply dwp_region
              | apply ops_nil
              | (apply ops_plain; (· exact rfl))
              | (apply ops_off0; (· exact rfl); (· exact rfl); (· (first | with_reducible assumption | with_reducible rfl | decide)))
              | (apply op_call; (· exact rfl); (· exact rfl); (· exact rfl); (refine (letter62 _ _).mono ?_; rintro r0 H' ⟨rfl, rfl⟩; rw [hL]))
              | (apply op_pick_t; (· exact rfl); (· exact rfl); (· (first | with_reducible assumption | with_reducible rfl | decide)); (· exact rfl))
              | (apply op_told; (· exact rfl); (· exact congrArg (DV.int _) hu8))
              | (apply bx_build1 et68; (· exact rfl); (· exact rfl); (· exact rfl); (· exact rfl); (· exact rfl); (· decide); (· assumption); intro bn H1 hB)
              | (apply op_append_s; (· exact rfl); (· exact rfl); (· exact rfl); (· exact rfl); (· exact et68); (· exact o3); (· assumption); (· (repeat (first | with_reducible exact Ctx.here | with_reducible apply Ctx.cons | with_reducible apply Ctx.app))); (· exact At.here); (· exact rfl); (· exact rfl); (· assumption); intro t3 y3 H1 q3 hB)
              | (apply bx_load0; (· exact rfl); (· exact rfl); (· assumption); (· (repeat (first | with_reducible exact At.here | with_reducible apply At.there | with_reducible apply at_app))); (· (first | exact part57 _ _ _ _ | exact part49 _ _ | exact part49a _ _ _ _ _ _ _ _ _ | exact part49w _ _ _ _ _ _ _ _ _ | exact rfl)))
              | (apply bx_store1; (· exact rfl); (· exact rfl); (· exact rfl); (· assumption); (· (first | (dsimp only [putD, DV.cells, DH.new_next, DH.set_next, List.length_cons, List.length_nil, Nat.reduceAdd, List.set_cons_zero, List.set_cons_succ, getD_zero, getD_succ, fieldAt_zero, fieldAt_succ, thenD, blockD, retR, Sv.cells]; done) | (dsimp only [putD, DV.cells, DH.new_next, DH.set_next, List.length_cons, List.length_nil, Nat.reduceAdd, List.set_cons_zero, List.set_cons_succ, getD_zero, getD_succ, fieldAt_zero, fieldAt_succ, thenD, blockD, retR, Sv.cells]; exact rfl) | exact rfl)); (· (repeat (first | with_reducible exact At.here | with_reducible apply At.there | with_reducible apply at_app))); (· (first | (dsimp only [splice, List.take_zero, List.take_succ_cons, List.length_cons, List.length_nil, Nat.reduceAdd, Nat.zero_add, List.drop_zero, List.drop_succ_cons, List.drop_nil, List.nil_append, List.cons_append, List.append_nil, List.take_nil]; done) | (dsimp only [splice, List.take_zero, List.take_succ_cons, List.length_cons, List.length_nil, Nat.reduceAdd, Nat.zero_add, List.drop_zero, List.drop_succ_cons, List.drop_nil, List.nil_append, List.cons_append, List.append_nil, List.take_nil]; exact rfl) | exact rfl)); (· (repeat (first | with_reducible exact Upd.here | with_reducible apply Upd.there))); (· exact Nat.le_of_ble_eq_true rfl); (· exact rfl); (· exact rfl); (· exact rfl); intro H1 hB)
              | (apply op_at; (· exact rfl))
              | (apply dwp_cond_t; (· exact rfl); (· (first | with_reducible assumption | with_reducible rfl | decide)))
              | (apply dwp_cond_f; (· exact rfl); (· (first | with_reducible assumption | with_reducible rfl | decide)))
              | apply dwp_skip
              | apply dwp_ret
              | (refine ⟨_, rfl, ?_⟩)
              | fail)
            refine hk _ _ ⟨s1, s2, t3, x1, x2, y3, o1, o2, ?_, (hB.sub (by (repeat (first | exact List.Sublist.refl _ | exact List.nil_sublist _ | apply List.Sublist.cons_cons | apply List.Sublist.cons | apply List.Sublist.append_left | refine List.Sublist.trans ?_ (List.sublist_append_right _ _)))))⟩
            rw [hrows]; exact q3
          | false =>
            have hD : isDgt r = true := by rw [hL] at hLD; simpa using hLD
            repeat' (first
              | dsimp only [putD, DV.cells, DH.new_next, DH.set_next, List.length_cons, List.length_nil, Nat.reduceAdd, List.set_cons_zero, List.set_cons_succ, getD_zero, getD_succ, fieldAt_zero, fieldAt_succ, thenD, blockD, retR]
              | apply dwp_seq
              | apply dwp_region
              | apply ops_nil
              | (apply ops_plain; (· exact rfl))
              | (apply ops_on; (· exact rfl); (· exact rfl); (· (first | with_reducible assumption | with_reducible rfl | decide)))
              | (apply op_call; (· exact rfl); (· exact rfl); (· exact rfl); (refine (letter62 _ _).mono ?_; rintro r0 H' ⟨rfl, rfl⟩; rw [hL]))
              | (apply op_call; (· exact rfl); (· exact rfl); (· exact rfl); (refine (digit63 _ _).mono ?_; rintro r0 H' ⟨rfl, rfl⟩; rw [hD]))
              | (apply op_pick_f; (· exact rfl); (· exact rfl); (· (first | with_reducible assumption | with_reducible rfl | decide)); (· exact rfl))
              | (apply op_told; (· exact rfl); (· exact congrArg (DV.int _) hu8))
              | (apply bx_build1 et68; (· exact rfl); (· exact rfl); (· exact rfl); (· exact rfl); (· exact rfl); (· decide); (· assumption); intro bn H1 hB)
              | (apply op_append_s; (· exact rfl); (· exact rfl); (· exact rfl); (· exact rfl); (· exact et68); (· exact o3); (· assumption); (· (repeat (first | with_reducible exact Ctx.here | with_reducible apply Ctx.cons | with_reducible apply Ctx.app))); (· exact At.here); (· exact rfl); (· exact rfl); (· assumption); intro t3 y3 H1 q3 hB)
              | (apply bx_load0; (· exact rfl); (· exact rfl); (· assumption); (· (repeat (first | with_reducible exact At.here | with_reducible apply At.there | with_reducible apply at_app))); (· (first | exact part57 _ _ _ _ | exact part49 _ _ | exact part49a _ _ _ _ _ _ _ _ _ | exact part49w _ _ _ _ _ _ _ _ _ | exact rfl)))
              | (apply bx_store1; (· exact rfl); (· exact rfl); (· exact rfl); (· assumption); (· (first | (dsimp only [putD, DV.cells, DH.new_next, DH.set_next, List.length_cons, List.length_nil, Nat.reduceAdd, List.set_cons_zero, List.set_cons_succ, getD_zero, getD_succ, fieldAt_zero, fieldAt_succ, thenD, blockD, retR, Sv.cells]; done) | (dsimp only [putD, DV.cells, DH.new_next, DH.set_next, List.length_cons, List.length_nil, Nat.reduceAdd, List.set_cons_zero, List.set_cons_succ, getD_zero, getD_succ, fieldAt_zero, fieldAt_succ, thenD, blockD, retR, Sv.cells]; exact rfl) | exact rfl)); (· (repeat (first | with_reducible exact At.here | with_reducible apply At.there | with_reducible apply at_app))); (· (first | (dsimp only [splice, List.take_zero, List.take_succ_cons, List.length_cons, List.length_nil, Nat.reduceAdd, Nat.zero_add, List.drop_zero, List.drop_succ_cons, List.drop_nil, List.nil_append, List.cons_append, List.append_nil, List.take_nil]; done) | (dsimp only [splice, List.take_zero, List.take_succ_cons, List.length_cons, List.length_nil, Nat.reduceAdd, Nat.zero_add, List.drop_zero, List.drop_succ_cons, List.drop_nil, List.nil_append, List.cons_append, List.append_nil, List.take_nil]; exact rfl) | exact rfl)); (· (repeat (first | with_reducible exact Upd.here | with_reducible apply Upd.there))); (· exact Nat.le_of_ble_eq_true rfl); (· exact rfl); (· exact rfl); (· exact rfl); intro H1 hB)
              | (apply op_at; (· exact rfl))
              | (apply dwp_cond_t; (· exact rfl); (· (first | with_reducible assumption | with_reducible rfl | decide)))
              | (apply dwp_cond_f; (· exact rfl); (· (first | with_reducible assumption | with_reducible rfl | decide)))
              | apply dwp_skip
              | apply dwp_ret
              | (refine ⟨_, rfl, ?_⟩)
              | fail)
            refine hk _ _ ⟨s1, s2, t3, x1, x2, y3, o1, o2, ?_, (hB.sub (by (repeat (first | exact List.Sublist.refl _ | exact List.nil_sublist _ | apply List.Sublist.cons_cons | apply List.Sublist.cons | apply List.Sublist.append_left | refine List.Sublist.trans ?_ (List.sublist_append_right _ _)))))⟩
            rw [hrows]; exact q3
      | false =>
        have hL : isLet r = false := by simp at hLD; exact hLD.1
        have hD : isDgt r = false := by simp at hLD; exact hLD.2
        obtain ⟨c1, hc1⟩ : ∃ c1, c1 = Cu.fin ⟨toks, places, piece, (a1, a2), false, (w1, w2), e⟩ := ⟨_, rfl⟩
        have hfl := fin_len ⟨toks, places, piece, (a1, a2), false, (w1, w2), e⟩
        rw [← hc1] at hfl
        have ef : Cu.take ⟨toks, places, piece, (a1, a2), false, (w1, w2), e⟩ (p1, p2) r = (if r = 32 ∨ r = 9 ∨ r = 10 then c1 else if r = 35 then { c1 with remark := true } else if r = 59 ∨ r = 123 ∨ r = 125 then c1.add ⟨3, [UInt8.ofNat r.toNat], 0, false⟩ (p1, p2) else if r = 45 then { c1 with piece := c1.piece ++ [45], at' := (p1, p2) } else c1.fail (p1, p2) 4) := by
          unfold Cu.take
          simp only [Bool.false_eq_true, false_and, if_false]
          rw [if_neg (by simp [hL, hD]), hc1]
        rw [ef] at hk
        clear ef
        obtain ⟨toks1, places1, piece1, ⟨b1, b2⟩, rem1, ⟨v1, v2⟩, e1⟩ := c1
        dsimp only at hfl hk
        have hl3 : (rowsB piece1).length + 1 ≤ mostD := by rw [rowsB_len, hfl.2.2.1]; decide
        have hrows : rowsB (piece1 ++ [45]) = rowsB piece1 ++ [[.int .u8 ((45 : UInt8).toNat : Int)]] := by simp [rowsB]
        have g1 : toks1.length ≤ 1000000 := by omega
        have g2 : places1.length ≤ 1000000 := by omega
        have g3 : toks.length + 1 ≤ 1000000 := by omega
        have g4 : places.length + 1 ≤ 1000000 := by omega
        have hrest : ∀ {c' : Cu} {H' : DH}, Rep A H' bc c' ((b4, .rows false 2 [[.int .i64 p1, .int .i64 p2]]) :: rest) fs → Rep A H' bc c' rest fs := fun h => h.sub (List.sublist_cons_self _ _)
        by_cases hr32 : r = 32
        · subst hr32
          rw [if_pos (by simp)] at hk
          repeat' (first
            | dsimp only [putD, DV.cells, DH.new_next, DH.set_next, List.length_cons, List.length_nil, Nat.reduceAdd, List.set_cons_zero, List.set_cons_succ, getD_zero, getD_succ, fieldAt_zero, fieldAt_succ, thenD, blockD, retR]
            | apply dwp_seq
            | apply dwp_region
            | apply ops_nil
            | (apply ops_plain; (· exact rfl))
            | (apply ops_on; (· exact rfl); (· exact rfl); (· (first | with_reducible assumption | with_reducible rfl | decide)))
            | (apply op_call; (· exact rfl); (· exact rfl); (· exact rfl); (refine (letter62 _ _).mono ?_; rintro r0 H' ⟨rfl, rfl⟩; rw [hL]))
            | (apply op_call; (· exact rfl); (· exact rfl); (· exact rfl); (refine (digit63 _ _).mono ?_; rintro r0 H' ⟨rfl, rfl⟩; rw [hD]))
            | (apply op_call; (· exact rfl); (· exact rfl); (· exact rfl); (apply end54 (c := ⟨toks, places, piece, (a1, a2), false, (w1, w2), e⟩); (· exact g3); (· exact g4); (· exact h3); (· exact Rep.of1 (c := ⟨toks, places, piece, (a1, a2), false, (w1, w2), e⟩) o1 o2 o3 hB); intro r1 H1 hR1; rw [← hc1] at hR1; obtain ⟨s1, s2, s3, x1, x2, x3, o1, o2, o3, hB⟩ := hR1.ex; dsimp only at o1 o2 o3 hB))
            | (apply op_pick_f; (· exact rfl); (· exact rfl); (· (first | with_reducible assumption | with_reducible rfl | decide)); (· exact rfl))
            | (apply bx_load0; (· exact rfl); (· exact rfl); (· assumption); (· (repeat (first | with_reducible exact At.here | with_reducible apply At.there | with_reducible apply at_app))); (· (first | exact part57 _ _ _ _ | exact part49 _ _ | exact part49a _ _ _ _ _ _ _ _ _ | exact part49w _ _ _ _ _ _ _ _ _ | exact rfl)))
            | (apply op_at; (· exact rfl))
            | (apply dwp_cond_t; (· exact rfl); (· (first | with_reducible assumption | with_reducible rfl | decide)))
            | (apply dwp_cond_f; (· exact rfl); (· (first | with_reducible assumption | with_reducible rfl | decide)))
            | apply dwp_block
            | apply dwp_skip
            | (refine ⟨_, rfl, ?_⟩)
            | fail)
          exact hk _ _ (hrest (⟨s1, s2, s3, x1, x2, x3, o1, o2, o3, hB⟩ : Rep _ _ _ ⟨toks1, places1, piece1, (b1, b2), rem1, (v1, v2), e1⟩ _ _))
        by_cases hr9 : r = 9
        · subst hr9
          rw [if_pos (by simp)] at hk
          repeat' (first
            | dsimp only [putD, DV.cells, DH.new_next, DH.set_next, List.length_cons, List.length_nil, Nat.reduceAdd, List.set_cons_zero, List.set_cons_succ, getD_zero, getD_succ, fieldAt_zero, fieldAt_succ, thenD, blockD, retR]
            | apply dwp_seq
            | apply dwp_region
            | apply ops_nil
            | (apply ops_plain; (· exact rfl))
            | (apply ops_on; (· exact rfl); (· exact rfl); (· (first | with_reducible assumption | with_reducible rfl | decide)))
            | (apply op_call; (· exact rfl); (· exact rfl); (· exact rfl); (refine (letter62 _ _).mono ?_; rintro r0 H' ⟨rfl, rfl⟩; rw [hL]))
            | (apply op_call; (· exact rfl); (· exact rfl); (· exact rfl); (refine (digit63 _ _).mono ?_; rintro r0 H' ⟨rfl, rfl⟩; rw [hD]))
            | (apply op_call; (· exact rfl); (· exact rfl); (· exact rfl); (apply end54 (c := ⟨toks, places, piece, (a1, a2), false, (w1, w2), e⟩); (· exact g3); (· exact g4); (· exact h3); (· exact Rep.of1 (c := ⟨toks, places, piece, (a1, a2), false, (w1, w2), e⟩) o1 o2 o3 hB); intro r1 H1 hR1; rw [← hc1] at hR1; obtain ⟨s1, s2, s3, x1, x2, x3, o1, o2, o3, hB⟩ := hR1.ex; dsimp only at o1 o2 o3 hB))
            | (apply op_pick_f; (· exact rfl); (· exact rfl); (· (first | with_reducible assumption | with_reducible rfl | decide)); (· exact rfl))
            | (apply bx_load0; (· exact rfl); (· exact rfl); (· assumption); (· (repeat (first | with_reducible exact At.here | with_reducible apply At.there | with_reducible apply at_app))); (· (first | exact part57 _ _ _ _ | exact part49 _ _ | exact part49a _ _ _ _ _ _ _ _ _ | exact part49w _ _ _ _ _ _ _ _ _ | exact rfl)))
            | (apply op_at; (· exact rfl))
            | (apply dwp_cond_t; (· exact rfl); (· (first | with_reducible assumption | with_reducible rfl | decide)))
            | (apply dwp_cond_f; (· exact rfl); (· (first | with_reducible assumption | with_reducible rfl | decide)))
            | apply dwp_block
            | apply dwp_skip
            | (refine ⟨_, rfl, ?_⟩)
            | fail)
          exact hk _ _ (hrest (⟨s1, s2, s3, x1, x2, x3, o1, o2, o3, hB⟩ : Rep _ _ _ ⟨toks1, places1, piece1, (b1, b2), rem1, (v1, v2), e1⟩ _ _))
        by_cases hr10 : r = 10
        · subst hr10
          rw [if_pos (by simp)] at hk
          repeat' (first
            | dsimp only [putD, DV.cells, DH.new_next, DH.set_next, List.length_cons, List.length_nil, Nat.reduceAdd, List.set_cons_zero, List.set_cons_succ, getD_zero, getD_succ, fieldAt_zero, fieldAt_succ, thenD, blockD, retR]
            | apply dwp_seq
            | apply dwp_region
            | apply ops_nil
            | (apply ops_plain; (· exact rfl))
            | (apply ops_on; (· exact rfl); (· exact rfl); (· (first | with_reducible assumption | with_reducible rfl | decide)))
            | (apply op_call; (· exact rfl); (· exact rfl); (· exact rfl); (refine (letter62 _ _).mono ?_; rintro r0 H' ⟨rfl, rfl⟩; rw [hL]))
            | (apply op_call; (· exact rfl); (· exact rfl); (· exact rfl); (refine (digit63 _ _).mono ?_; rintro r0 H' ⟨rfl, rfl⟩; rw [hD]))
            | (apply op_call; (· exact rfl); (· exact rfl); (· exact rfl); (apply end54 (c := ⟨toks, places, piece, (a1, a2), false, (w1, w2), e⟩); (· exact g3); (· exact g4); (· exact h3); (· exact Rep.of1 (c := ⟨toks, places, piece, (a1, a2), false, (w1, w2), e⟩) o1 o2 o3 hB); intro r1 H1 hR1; rw [← hc1] at hR1; obtain ⟨s1, s2, s3, x1, x2, x3, o1, o2, o3, hB⟩ := hR1.ex; dsimp only at o1 o2 o3 hB))
            | (apply op_pick_f; (· exact rfl); (· exact rfl); (· (first | with_reducible assumption | with_reducible rfl | decide)); (· exact rfl))
            | (apply bx_load0; (· exact rfl); (· exact rfl); (· assumption); (· (repeat (first | with_reducible exact At.here | with_reducible apply At.there | with_reducible apply at_app))); (· (first | exact part57 _ _ _ _ | exact part49 _ _ | exact part49a _ _ _ _ _ _ _ _ _ | exact part49w _ _ _ _ _ _ _ _ _ | exact rfl)))
            | (apply op_at; (· exact rfl))
            | (apply dwp_cond_t; (· exact rfl); (· (first | with_reducible assumption | with_reducible rfl | decide)))
            | (apply dwp_cond_f; (· exact rfl); (· (first | with_reducible assumption | with_reducible rfl | decide)))
            | apply dwp_block
            | apply dwp_skip
            | (refine ⟨_, rfl, ?_⟩)
            | fail)
          exact hk _ _ (hrest (⟨s1, s2, s3, x1, x2, x3, o1, o2, o3, hB⟩ : Rep _ _ _ ⟨toks1, places1, piece1, (b1, b2), rem1, (v1, v2), e1⟩ _ _))
        by_cases hr35 : r = 35
        · subst hr35
          rw [if_neg (by decide), if_pos rfl] at hk
          repeat' (first
            | dsimp only [putD, DV.cells, DH.new_next, DH.set_next, List.length_cons, List.length_nil, Nat.reduceAdd, List.set_cons_zero, List.set_cons_succ, getD_zero, getD_succ, fieldAt_zero, fieldAt_succ, thenD, blockD, retR]
            | apply dwp_seq
            | apply dwp_region
            | apply ops_nil
            | (apply ops_plain; (· exact rfl))
            | (apply ops_on; (· exact rfl); (· exact rfl); (· (first | with_reducible assumption | with_reducible rfl | decide)))
            | (apply op_call; (· exact rfl); (· exact rfl); (· exact rfl); (refine (letter62 _ _).mono ?_; rintro r0 H' ⟨rfl, rfl⟩; rw [hL]))
            | (apply op_call; (· exact rfl); (· exact rfl); (· exact rfl); (refine (digit63 _ _).mono ?_; rintro r0 H' ⟨rfl, rfl⟩; rw [hD]))
            | (apply op_call; (· exact rfl); (· exact rfl); (· exact rfl); (apply end54 (c := ⟨toks, places, piece, (a1, a2), false, (w1, w2), e⟩); (· exact g3); (· exact g4); (· exact h3); (· exact Rep.of1 (c := ⟨toks, places, piece, (a1, a2), false, (w1, w2), e⟩) o1 o2 o3 hB); intro r1 H1 hR1; rw [← hc1] at hR1; obtain ⟨s1, s2, s3, x1, x2, x3, o1, o2, o3, hB⟩ := hR1.ex; dsimp only at o1 o2 o3 hB))
            | (apply op_pick_f; (· exact rfl); (· exact rfl); (· (first | with_reducible assumption | with_reducible rfl | decide)); (· exact rfl))
            | (apply bx_load0; (· exact rfl); (· exact rfl); (· assumption); (· (repeat (first | with_reducible exact At.here | with_reducible apply At.there | with_reducible apply at_app))); (· (first | exact part57 _ _ _ _ | exact part49 _ _ | exact part49a _ _ _ _ _ _ _ _ _ | exact part49w _ _ _ _ _ _ _ _ _ | exact rfl)))
            | (apply bx_store1; (· exact rfl); (· exact rfl); (· exact rfl); (· assumption); (· (first | (dsimp only [putD, DV.cells, DH.new_next, DH.set_next, List.length_cons, List.length_nil, Nat.reduceAdd, List.set_cons_zero, List.set_cons_succ, getD_zero, getD_succ, fieldAt_zero, fieldAt_succ, thenD, blockD, retR, Sv.cells]; done) | (dsimp only [putD, DV.cells, DH.new_next, DH.set_next, List.length_cons, List.length_nil, Nat.reduceAdd, List.set_cons_zero, List.set_cons_succ, getD_zero, getD_succ, fieldAt_zero, fieldAt_succ, thenD, blockD, retR, Sv.cells]; exact rfl) | exact rfl)); (· (repeat (first | with_reducible exact At.here | with_reducible apply At.there | with_reducible apply at_app))); (· (first | (dsimp only [splice, List.take_zero, List.take_succ_cons, List.length_cons, List.length_nil, Nat.reduceAdd, Nat.zero_add, List.drop_zero, List.drop_succ_cons, List.drop_nil, List.nil_append, List.cons_append, List.append_nil, List.take_nil]; done) | (dsimp only [splice, List.take_zero, List.take_succ_cons, List.length_cons, List.length_nil, Nat.reduceAdd, Nat.zero_add, List.drop_zero, List.drop_succ_cons, List.drop_nil, List.nil_append, List.cons_append, List.append_nil, List.take_nil]; exact rfl) | exact rfl)); (· (repeat (first | with_reducible exact Upd.here | with_reducible apply Upd.there))); (· exact Nat.le_of_ble_eq_true rfl); (· exact rfl); (· exact rfl); (· exact rfl); intro H1 hB)
            | (apply op_at; (· exact rfl))
            | (apply dwp_cond_t; (· exact rfl); (· (first | with_reducible assumption | with_reducible rfl | decide)))
            | (apply dwp_cond_f; (· exact rfl); (· (first | with_reducible assumption | with_reducible rfl | decide)))
            | apply dwp_block
            | apply dwp_skip
            | (refine ⟨_, rfl, ?_⟩)
            | fail)
          exact hk _ _ (hrest (⟨s1, s2, s3, x1, x2, x3, o1, o2, o3, hB⟩ : Rep _ _ _ ⟨toks1, places1, piece1, (b1, b2), true, (v1, v2), e1⟩ _ _))
        by_cases hr59 : r = 59
        · subst hr59
          rw [if_neg (by decide), if_neg (by decide), if_pos (by simp)] at hk
          have henc : (Utf8.encode 59).data.toList = [59] := by decide
          repeat' (first
            | dsimp only [putD, DV.cells, DH.new_next, DH.set_next, List.length_cons, List.length_nil, Nat.reduceAdd, List.set_cons_zero, List.set_cons_succ, getD_zero, getD_succ, fieldAt_zero, fieldAt_succ, thenD, blockD, retR]
            | apply dwp_seq
            | apply dwp_region
            | apply ops_nil
            | (apply ops_plain; (· exact rfl))
            | (apply ops_on; (· exact rfl); (· exact rfl); (· (first | with_reducible assumption | with_reducible rfl | decide)))
            | (apply op_call; (· exact rfl); (· exact rfl); (· exact rfl); (refine (letter62 _ _).mono ?_; rintro r0 H' ⟨rfl, rfl⟩; rw [hL]))
            | (apply op_call; (· exact rfl); (· exact rfl); (· exact rfl); (refine (digit63 _ _).mono ?_; rintro r0 H' ⟨rfl, rfl⟩; rw [hD]))
            | (apply op_call; (· exact rfl); (· exact rfl); (· exact rfl); (apply end54 (c := ⟨toks, places, piece, (a1, a2), false, (w1, w2), e⟩); (· exact g3); (· exact g4); (· exact h3); (· exact Rep.of1 (c := ⟨toks, places, piece, (a1, a2), false, (w1, w2), e⟩) o1 o2 o3 hB); intro r1 H1 hR1; rw [← hc1] at hR1; obtain ⟨s1, s2, s3, x1, x2, x3, o1, o2, o3, hB⟩ := hR1.ex; dsimp only at o1 o2 o3 hB))
            | (apply op_call; (· exact rfl); (· exact rfl); (· exact rfl); (apply add84 (c := ⟨toks1, places1, piece1, (b1, b2), rem1, (v1, v2), e1⟩) (t := ⟨3, [59], 0, false⟩); (· exact g1); (· exact g2); (· exact (⟨s1, s2, s3, x1, x2, x3, o1, o2, o3, hB⟩ : Rep _ _ _ ⟨toks1, places1, piece1, (b1, b2), rem1, (v1, v2), e1⟩ _ _)); intro r2 H2 hR2))
            | (apply op_pick_f; (· exact rfl); (· exact rfl); (· (first | with_reducible assumption | with_reducible rfl | decide)); (· exact rfl))
            | (apply op_told; (· exact rfl); (· exact congrArg DV.str henc))
            | (apply bx_load0; (· exact rfl); (· exact rfl); (· assumption); (· (repeat (first | with_reducible exact At.here | with_reducible apply At.there | with_reducible apply at_app))); (· (first | exact part57 _ _ _ _ | exact part49 _ _ | exact part49a _ _ _ _ _ _ _ _ _ | exact part49w _ _ _ _ _ _ _ _ _ | exact rfl)))
            | (apply op_at; (· exact rfl))
            | (apply dwp_cond_t; (· exact rfl); (· (first | with_reducible assumption | with_reducible rfl | decide)))
            | (apply dwp_cond_f; (· exact rfl); (· (first | with_reducible assumption | with_reducible rfl | decide)))
            | apply dwp_block
            | apply dwp_skip
            | (refine ⟨_, rfl, ?_⟩)
            | fail)
          exact hk _ _ (hrest hR2)
        by_cases hr123 : r = 123
        · subst hr123
          rw [if_neg (by decide), if_neg (by decide), if_pos (by simp)] at hk
          have henc : (Utf8.encode 123).data.toList = [123] := by decide
          repeat' (first
            | dsimp only [putD, DV.cells, DH.new_next, DH.set_next, List.length_cons, List.length_nil, Nat.reduceAdd, List.set_cons_zero, List.set_cons_succ, getD_zero, getD_succ, fieldAt_zero, fieldAt_succ, thenD, blockD, retR]
            | apply dwp_seq
            | apply dwp_region
            | apply ops_nil
            | (apply ops_plain; (· exact rfl))
            | (apply ops_on; (· exact rfl); (· exact rfl); (· (first | with_reducible assumption | with_reducible rfl | decide)))
            | (apply op_call; (· exact rfl); (· exact rfl); (· exact rfl); (refine (letter62 _ _).mono ?_; rintro r0 H' ⟨rfl, rfl⟩; rw [hL]))
            | (apply op_call; (· exact rfl); (· exact rfl); (· exact rfl); (refine (digit63 _ _).mono ?_; rintro r0 H' ⟨rfl, rfl⟩; rw [hD]))
            | (apply op_call; (· exact rfl); (· exact rfl); (· exact rfl); (apply end54 (c := ⟨toks, places, piece, (a1, a2), false, (w1, w2), e⟩); (· exact g3); (· exact g4); (· exact h3); (· exact Rep.of1 (c := ⟨toks, places, piece, (a1, a2), false, (w1, w2), e⟩) o1 o2 o3 hB); intro r1 H1 hR1; rw [← hc1] at hR1; obtain ⟨s1, s2, s3, x1, x2, x3, o1, o2, o3, hB⟩ := hR1.ex; dsimp only at o1 o2 o3 hB))
            | (apply op_call; (· exact rfl); (· exact rfl); (· exact rfl); (apply add84 (c := ⟨toks1, places1, piece1, (b1, b2), rem1, (v1, v2), e1⟩) (t := ⟨3, [123], 0, false⟩); (· exact g1); (· exact g2); (· exact (⟨s1, s2, s3, x1, x2, x3, o1, o2, o3, hB⟩ : Rep _ _ _ ⟨toks1, places1, piece1, (b1, b2), rem1, (v1, v2), e1⟩ _ _)); intro r2 H2 hR2))
            | (apply op_pick_f; (· exact rfl); (· exact rfl); (· (first | with_reducible assumption | with_reducible rfl | decide)); (· exact rfl))
            | (apply op_told; (· exact rfl); (· exact congrArg DV.str henc))
            | (apply bx_load0; (· exact rfl); (· exact rfl); (· assumption); (· (repeat (first | with_reducible exact At.here | with_reducible apply At.there | with_reducible apply at_app))); (· (first | exact part57 _ _ _ _ | exact part49 _ _ | exact part49a _ _ _ _ _ _ _ _ _ | exact part49w _ _ _ _ _ _ _ _ _ | exact rfl)))
            | (apply op_at; (· exact rfl))
            | (apply dwp_cond_t; (· exact rfl); (· (first | with_reducible assumption | with_reducible rfl | decide)))
            | (apply dwp_cond_f; (· exact rfl); (· (first | with_reducible assumption | with_reducible rfl | decide)))
            | apply dwp_block
            | apply dwp_skip
            | (refine ⟨_, rfl, ?_⟩)
            | fail)
          exact hk _ _ (hrest hR2)
        by_cases hr125 : r = 125
        · subst hr125
          rw [if_neg (by decide), if_neg (by decide), if_pos (by simp)] at hk
          have henc : (Utf8.encode 125).data.toList = [125] := by decide
          repeat' (first
            | dsimp only [putD, DV.cells, DH.new_next, DH.set_next, List.length_cons, List.length_nil, Nat.reduceAdd, List.set_cons_zero, List.set_cons_succ, getD_zero, getD_succ, fieldAt_zero, fieldAt_succ, thenD, blockD, retR]
            | apply dwp_seq
            | apply dwp_region
            | apply ops_nil
            | (apply ops_plain; (· exact rfl))
            | (apply ops_on; (· exact rfl); (· exact rfl); (· (first | with_reducible assumption | with_reducible rfl | decide)))
            | (apply op_call; (· exact rfl); (· exact rfl); (· exact rfl); (refine (letter62 _ _).mono ?_; rintro r0 H' ⟨rfl, rfl⟩; rw [hL]))
            | (apply op_call; (· exact rfl); (· exact rfl); (· exact rfl); (refine (digit63 _ _).mono ?_; rintro r0 H' ⟨rfl, rfl⟩; rw [hD]))
            | (apply op_call; (· exact rfl); (· exact rfl); (· exact rfl); (apply end54 (c := ⟨toks, places, piece, (a1, a2), false, (w1, w2), e⟩); (· exact g3); (· exact g4); (· exact h3); (· exact Rep.of1 (c := ⟨toks, places, piece, (a1, a2), false, (w1, w2), e⟩) o1 o2 o3 hB); intro r1 H1 hR1; rw [← hc1] at hR1; obtain ⟨s1, s2, s3, x1, x2, x3, o1, o2, o3, hB⟩ := hR1.ex; dsimp only at o1 o2 o3 hB))
            | (apply op_call; (· exact rfl); (· exact rfl); (· exact rfl); (apply add84 (c := ⟨toks1, places1, piece1, (b1, b2), rem1, (v1, v2), e1⟩) (t := ⟨3, [125], 0, false⟩); (· exact g1); (· exact g2); (· exact (⟨s1, s2, s3, x1, x2, x3, o1, o2, o3, hB⟩ : Rep _ _ _ ⟨toks1, places1, piece1, (b1, b2), rem1, (v1, v2), e1⟩ _ _)); intro r2 H2 hR2))
            | (apply op_pick_f; (· exact rfl); (· exact rfl); (· (first | with_reducible assumption | with_reducible rfl | decide)); (· exact rfl))
            | (apply op_told; (· exact rfl); (· exact congrArg DV.str henc))
            | (apply bx_load0; (· exact rfl); (· exact rfl); (· assumption); (· (repeat (first | with_reducible exact At.here | with_reducible apply At.there | with_reducible apply at_app))); (· (first | exact part57 _ _ _ _ | exact part49 _ _ | exact part49a _ _ _ _ _ _ _ _ _ | exact part49w _ _ _ _ _ _ _ _ _ | exact rfl)))
            | (apply op_at; (· exact rfl))
            | (apply dwp_cond_t; (· exact rfl); (· (first | with_reducible assumption | with_reducible rfl | decide)))
            | (apply dwp_cond_f; (· exact rfl); (· (first | with_reducible assumption | with_reducible rfl | decide)))
            | apply dwp_block
            | apply dwp_skip
            | (refine ⟨_, rfl, ?_⟩)
            | fail)
          exact hk _ _ (hrest hR2)
        by_cases hr45 : r = 45
        · subst hr45
          rw [if_neg (by decide), if_neg (by decide), if_neg (by decide), if_pos rfl] at hk
          repeat' (first
            | dsimp only [putD, DV.cells, DH.new_next, DH.set_next, List.length_cons, List.length_nil, Nat.reduceAdd, List.set_cons_zero, List.set_cons_succ, getD_zero, getD_succ, fieldAt_zero, fieldAt_succ, thenD, blockD, retR]
            | refine dwp_drawq _ rfl [8] (fun H' => Bx A H' [(bc, .rows false 9 [[s1.dv, s2.dv, s3.dv, .int .i64 b1, .int .i64 b2, .bool rem1, .int .i64 v1, .int .i64 v2, .int .i64 e1]]), (b4, .rows false 2 [[.int .i64 p1, .int .i64 p2]])] fs) (fun H' => Bx A H' [(b4, .rows false 2 [[.int .i64 p1, .int .i64 p2]])] fs) (hB.sub (by (repeat (first | exact List.Sublist.refl _ | exact List.nil_sublist _ | apply List.Sublist.cons_cons | apply List.Sublist.cons | apply List.Sublist.append_left | refine List.Sublist.trans ?_ (List.sublist_append_right _ _))))) ?_
            | (apply drawq_pure; (· (first | exact wanted_plain rfl | (apply wanted_on; (· exact rfl); (· exact rfl); (· (first | with_reducible assumption | with_reducible rfl | decide))))); (· exact rfl); (· exact rfl); (· exact rfl))
            | (apply drawq_read; (· (first | exact wanted_plain rfl | (apply wanted_on; (· exact rfl); (· exact rfl); (· (first | with_reducible assumption | with_reducible rfl | decide))))); (· exact rfl); (· exact rfl); (· intro H' h; have h : Bx _ H' _ _ := h; exact opD_load rfl rfl (h.get (by (repeat (first | with_reducible exact At.here | with_reducible apply At.there)))) rfl (by (first | exact part57 _ _ _ _ | exact part49 _ _ | exact part49a _ _ _ _ _ _ _ _ _ | exact part49w _ _ _ _ _ _ _ _ _ | exact rfl))); (· intro h2; exact absurd h2 (by decide)))
            | (apply drawq_read; (· (first | exact wanted_plain rfl | (apply wanted_on; (· exact rfl); (· exact rfl); (· (first | with_reducible assumption | with_reducible rfl | decide))))); (· exact rfl); (· exact rfl); (· intro H' h; have h : Bx _ H' _ _ := h; exact opD_load rfl rfl (h.get (by (repeat (first | with_reducible exact At.here | with_reducible apply At.there)))) rfl (by (first | exact part57 _ _ _ _ | exact part49 _ _ | exact part49a _ _ _ _ _ _ _ _ _ | exact part49w _ _ _ _ _ _ _ _ _ | exact rfl))); (· intro h2 H' h; have h : Bx _ H' _ _ := h; exact opD_load rfl rfl (h.get (by (repeat (first | with_reducible exact At.here | with_reducible apply At.there)))) rfl (by (first | exact part57 _ _ _ _ | exact part49 _ _ | exact part49a _ _ _ _ _ _ _ _ _ | exact part49w _ _ _ _ _ _ _ _ _ | exact rfl))))
            | (apply drawq_sync_st; (· exact rfl); (· (first | exact wanted_plain rfl | (apply wanted_on; (· exact rfl); (· exact rfl); (· (first | with_reducible assumption | with_reducible rfl | decide))))); (· decide +kernel))
            | (apply drawq_move; (· (first | exact wanted_plain rfl | (apply wanted_on; (· exact rfl); (· exact rfl); (· (first | with_reducible assumption | with_reducible rfl | decide))))); (· exact rfl))
            | apply draws_nil
            | (apply draws_pure; (· (first | exact wanted_plain rfl | (apply wanted_on; (· exact rfl); (· exact rfl); (· (first | with_reducible assumption | with_reducible rfl | decide))))); (· exact rfl); (· exact rfl); (· exact rfl))
            | (apply draws_move; (· (first | exact wanted_plain rfl | (apply wanted_on; (· exact rfl); (· exact rfl); (· (first | with_reducible assumption | with_reducible rfl | decide))))); (· exact rfl); (· decide +kernel))
            | refine ⟨(hB.sub (by (repeat (first | exact List.Sublist.refl _ | exact List.nil_sublist _ | apply List.Sublist.cons_cons | apply List.Sublist.cons | apply List.Sublist.append_left | refine List.Sublist.trans ?_ (List.sublist_append_right _ _))))), ?_⟩
            | apply dwp_seq
            | apply dwp_region
            | apply ops_nil
            | (apply ops_plain; (· exact rfl))
            | (apply ops_on; (· exact rfl); (· exact rfl); (· (first | with_reducible assumption | with_reducible rfl | decide)))
            | (apply op_call; (· exact rfl); (· exact rfl); (· exact rfl); (refine (letter62 _ _).mono ?_; rintro r0 H' ⟨rfl, rfl⟩; rw [hL]))
            | (apply op_call; (· exact rfl); (· exact rfl); (· exact rfl); (refine (digit63 _ _).mono ?_; rintro r0 H' ⟨rfl, rfl⟩; rw [hD]))
            | (apply op_call; (· exact rfl); (· exact rfl); (· exact rfl); (apply end54 (c := ⟨toks, places, piece, (a1, a2), false, (w1, w2), e⟩); (· exact g3); (· exact g4); (· exact h3); (· exact Rep.of1 (c := ⟨toks, places, piece, (a1, a2), false, (w1, w2), e⟩) o1 o2 o3 hB); intro r1 H1 hR1; rw [← hc1] at hR1; obtain ⟨s1, s2, s3, x1, x2, x3, o1, o2, o3, hB⟩ := hR1.ex; dsimp only at o1 o2 o3 hB))
            | (apply op_pick_f; (· exact rfl); (· exact rfl); (· (first | with_reducible assumption | with_reducible rfl | decide)); (· exact rfl))
            | (apply bx_build1 et68; (· exact rfl); (· exact rfl); (· exact rfl); (· exact rfl); (· exact rfl); (· decide); (· assumption); intro bn H1 hB; refine ⟨(hB.sub (by (repeat (first | exact List.Sublist.refl _ | exact List.nil_sublist _ | apply List.Sublist.cons_cons | apply List.Sublist.cons | apply List.Sublist.append_left | refine List.Sublist.trans ?_ (List.sublist_append_right _ _))))), ?_⟩)
            | (apply op_append_s; (· exact rfl); (· exact rfl); (· exact rfl); (· exact rfl); (· exact et68); (· exact o3); (· assumption); (· (repeat (first | with_reducible exact Ctx.here | with_reducible apply Ctx.cons | with_reducible apply Ctx.app))); (· exact At.here); (· exact rfl); (· exact rfl); (· assumption); intro t3 y3 H1 q3 hB; refine ⟨(hB.sub (by (repeat (first | exact List.Sublist.refl _ | exact List.nil_sublist _ | apply List.Sublist.cons_cons | apply List.Sublist.cons | apply List.Sublist.append_left | refine List.Sublist.trans ?_ (List.sublist_append_right _ _))))), ?_⟩)
            | (apply bx_load0; (· exact rfl); (· exact rfl); (· assumption); (· (repeat (first | with_reducible exact At.here | with_reducible apply At.there | with_reducible apply at_app))); (· (first | exact part57 _ _ _ _ | exact part49 _ _ | exact part49a _ _ _ _ _ _ _ _ _ | exact part49w _ _ _ _ _ _ _ _ _ | exact rfl)))
            | (apply bx_store1; (· exact rfl); (· exact rfl); (· exact rfl); (· assumption); (· (first | (dsimp only [putD, DV.cells, DH.new_next, DH.set_next, List.length_cons, List.length_nil, Nat.reduceAdd, List.set_cons_zero, List.set_cons_succ, getD_zero, getD_succ, fieldAt_zero, fieldAt_succ, thenD, blockD, retR, Sv.cells]; done) | (dsimp only [putD, DV.cells, DH.new_next, DH.set_next, List.length_cons, List.length_nil, Nat.reduceAdd, List.set_cons_zero, List.set_cons_succ, getD_zero, getD_succ, fieldAt_zero, fieldAt_succ, thenD, blockD, retR, Sv.cells]; exact rfl) | exact rfl)); (· (repeat (first | with_reducible exact At.here | with_reducible apply At.there | with_reducible apply at_app))); (· (first | (dsimp only [splice, List.take_zero, List.take_succ_cons, List.length_cons, List.length_nil, Nat.reduceAdd, Nat.zero_add, List.drop_zero, List.drop_succ_cons, List.drop_nil, List.nil_append, List.cons_append, List.append_nil, List.take_nil]; done) | (dsimp only [splice, List.take_zero, List.take_succ_cons, List.length_cons, List.length_nil, Nat.reduceAdd, Nat.zero_add, List.drop_zero, List.drop_succ_cons, List.drop_nil, List.nil_append, List.cons_append, List.append_nil, List.take_nil]; exact rfl) | exact rfl)); (· (repeat (first | with_reducible exact Upd.here | with_reducible apply Upd.there))); (· exact Nat.le_of_ble_eq_true rfl); (· exact rfl); (· exact rfl); (· exact rfl); intro H1 hB)
            | (apply op_at; (· exact rfl))
            | (apply dwp_cond_t; (· exact rfl); (· (first | with_reducible assumption | with_reducible rfl | decide)))
            | (apply dwp_cond_f; (· exact rfl); (· (first | with_reducible assumption | with_reducible rfl | decide)))
            | apply dwp_block
            | apply dwp_skip
            | (refine ⟨_, rfl, ?_⟩)
            | fail)
          refine hk _ _ (hrest ⟨s1, s2, t3, x1, x2, y3, o1, o2, ?_, (hB.sub (by (repeat (first | exact List.Sublist.refl _ | exact List.nil_sublist _ | apply List.Sublist.cons_cons | apply List.Sublist.cons | apply List.Sublist.append_left | refine List.Sublist.trans ?_ (List.sublist_append_right _ _)))))⟩)
          rw [hrows]; exact q3
        have hq32 : (r == 32) = false := by simpa using hr32
        have hq9 : (r == 9) = false := by simpa using hr9
        have hq10 : (r == 10) = false := by simpa using hr10
        have hq35 : (r == 35) = false := by simpa using hr35
        have hq59 : (r == 59) = false := by simpa using hr59
        have hq123 : (r == 123) = false := by simpa using hr123
        have hq125 : (r == 125) = false := by simpa using hr125
        have hq45 : (r == 45) = false := by simpa using hr45
        rw [if_neg (by omega), if_neg hr35, if_neg (by omega), if_neg hr45] at hk
        repeat' (first
          | dsimp only [putD, DV.cells, DH.new_next, DH.set_next, List.length_cons, List.length_nil, Nat.reduceAdd, List.set_cons_zero, List.set_cons_succ, getD_zero, getD_succ, fieldAt_zero, fieldAt_succ, thenD, blockD, retR]
          | apply dwp_seq
          | apply dwp_region
          | apply ops_nil
          | (apply ops_plain; (· exact rfl))
          | (apply ops_on; (· exact rfl); (· exact rfl); (· (first | with_reducible assumption | with_reducible rfl | decide)))
          | (apply op_call; (· exact rfl); (· exact rfl); (· exact rfl); (refine (letter62 _ _).mono ?_; rintro r0 H' ⟨rfl, rfl⟩; rw [hL]))
          | (apply op_call; (· exact rfl); (· exact rfl); (· exact rfl); (refine (digit63 _ _).mono ?_; rintro r0 H' ⟨rfl, rfl⟩; rw [hD]))
          | (apply op_call; (· exact rfl); (· exact rfl); (· exact rfl); (apply end54 (c := ⟨toks, places, piece, (a1, a2), false, (w1, w2), e⟩); (· exact g3); (· exact g4); (· exact h3); (· exact Rep.of1 (c := ⟨toks, places, piece, (a1, a2), false, (w1, w2), e⟩) o1 o2 o3 hB); intro r1 H1 hR1; rw [← hc1] at hR1; obtain ⟨s1, s2, s3, x1, x2, x3, o1, o2, o3, hB⟩ := hR1.ex; dsimp only at o1 o2 o3 hB))
          | (apply op_call; (· exact rfl); (· exact rfl); (· exact rfl); (apply fail55 (c := ⟨toks1, places1, piece1, (b1, b2), rem1, (v1, v2), e1⟩); (· exact (⟨s1, s2, s3, x1, x2, x3, o1, o2, o3, hB⟩ : Rep _ _ _ ⟨toks1, places1, piece1, (b1, b2), rem1, (v1, v2), e1⟩ _ _)); intro r2 H2 hR2))
          | (apply op_pick_f; (· exact rfl); (· exact rfl); (· (first | with_reducible assumption | with_reducible rfl | decide)); (· exact rfl))
          | (apply bx_load0; (· exact rfl); (· exact rfl); (· assumption); (· (repeat (first | with_reducible exact At.here | with_reducible apply At.there | with_reducible apply at_app))); (· (first | exact part57 _ _ _ _ | exact part49 _ _ | exact part49a _ _ _ _ _ _ _ _ _ | exact part49w _ _ _ _ _ _ _ _ _ | exact rfl)))
          | (apply op_at; (· exact rfl))
          | (apply dwp_cond_f; (· exact rfl); (· (first | with_reducible assumption | with_reducible rfl | decide)))
          | apply dwp_block
          | apply dwp_skip
          | (refine ⟨_, rfl, ?_⟩)
          | fail)
        exact hk _ _ (hrest hR2)
end
end Go.Det.C

/- The place behind a rune; a text's runes. -/
namespace Go.Det.C
open Go Go.Det Go.Proofs
set_option maxRecDepth 4000
set_option maxHeartbeats 4000000
set_option linter.unusedVariables false
set_option linter.unusedSimpArgs false
theorem next57 {p1 p2 r : Int} {A H : DH} {bs : List (Nat × DObj)} {fs : List (DH → Prop)} {K : DV → DH → Prop} (h1 : 0 ≤ p1 ∧ p1 ≤ 1000000) (h2 : 0 ≤ p2 ∧ p2 ≤ 1000000) (hB : Bx A H bs fs)
    (hk : ∀ H', Bx A H' bs fs → K (.agg [.int .i64 (nextP (p1, p2) r).1, .int .i64 (nextP (p1, p2) r).2]) H') : CallWp Tryd.prog X3 57 [.agg [.int .i64 p1, .int .i64 p2], .int .i32 r] H K := by
  have w1 : IntKind.i64.wrap (p1 + 1) = p1 + 1 := wrapI (by omega)
  have w2 : IntKind.i64.wrap (p2 + 1) = p2 + 1 := wrapI (by omega)
  unfold nextP at hk
  cases hr : (r == 10) with
  | true =>
    rw [if_pos (by simpa using hr)] at hk
    refine enter rfl Tryd.func57 rfl Tryd.ntmps57 rfl ?_
    dsimp only [List.cons_append, List.nil_append, List.length_cons, List.length_nil, List.replicate_succ, List.replicate_zero, Nat.reduceAdd, Nat.reduceSub]
    repeat' (first
      | dsimp only [putD, DV.cells, DH.new_next, DH.set_next, List.length_cons, List.length_nil, Nat.reduceAdd, List.set_cons_zero, List.set_cons_succ, getD_zero, getD_succ, fieldAt_zero, fieldAt_succ, thenD, blockD, retR]
      | (refine ⟨_, resOf_c (loadD_at rfl (Bx.get (by assumption) (by (repeat (first | with_reducible exact At.here | with_reducible apply At.there | with_reducible apply at_app)))) rfl (by (first | exact part57 _ _ _ _ | exact part49 _ _ | exact part49a _ _ _ _ _ _ _ _ _ | exact part49w _ _ _ _ _ _ _ _ _ | exact rfl))), ?_⟩)
      | apply dwp_seq
      | apply dwp_region
      | apply ops_nil
      | (apply ops_plain; (· exact rfl))
      | (apply op_told; (· exact rfl); (· exact congrArg (DV.int _) w1))
      | (apply bx_load0; (· exact rfl); (· exact rfl); (· assumption); (· (repeat (first | with_reducible exact At.here | with_reducible apply At.there | with_reducible apply at_app))); (· (first | exact part57 _ _ _ _ | exact part49 _ _ | exact part49a _ _ _ _ _ _ _ _ _ | exact part49w _ _ _ _ _ _ _ _ _ | exact rfl)))
      | (apply bx_store0; (· exact rfl); (· exact rfl); (· exact rfl); (· assumption); (· (first | (dsimp only [putD, DV.cells, DH.new_next, DH.set_next, List.length_cons, List.length_nil, Nat.reduceAdd, List.set_cons_zero, List.set_cons_succ, getD_zero, getD_succ, fieldAt_zero, fieldAt_succ, thenD, blockD, retR, Sv.cells]; done) | (dsimp only [putD, DV.cells, DH.new_next, DH.set_next, List.length_cons, List.length_nil, Nat.reduceAdd, List.set_cons_zero, List.set_cons_succ, getD_zero, getD_succ, fieldAt_zero, fieldAt_succ, thenD, blockD, retR, Sv.cells]; exact rfl) | exact rfl)); (· (repeat (first | with_reducible exact Upd.here | with_reducible apply Upd.there))); (· exact rfl); (· exact rfl); (· exact rfl); (· exact rfl); intro H1 hB)
      | (apply bx_box; (· exact rfl); (· exact rfl); (· (first | (dsimp only [putD, DV.cells, DH.new_next, DH.set_next, List.length_cons, List.length_nil, Nat.reduceAdd, List.set_cons_zero, List.set_cons_succ, getD_zero, getD_succ, fieldAt_zero, fieldAt_succ, thenD, blockD, retR, Sv.cells]; done) | (dsimp only [putD, DV.cells, DH.new_next, DH.set_next, List.length_cons, List.length_nil, Nat.reduceAdd, List.set_cons_zero, List.set_cons_succ, getD_zero, getD_succ, fieldAt_zero, fieldAt_succ, thenD, blockD, retR, Sv.cells]; exact rfl) | exact rfl)); (· exact rfl); (· exact rfl); (· assumption); intro b1 H1 hB)
      | (apply bx_alloc; (· exact rfl); (· exact zero49); (· (first | (dsimp only [putD, DV.cells, DH.new_next, DH.set_next, List.length_cons, List.length_nil, Nat.reduceAdd, List.set_cons_zero, List.set_cons_succ, getD_zero, getD_succ, fieldAt_zero, fieldAt_succ, thenD, blockD, retR, Sv.cells]; done) | (dsimp only [putD, DV.cells, DH.new_next, DH.set_next, List.length_cons, List.length_nil, Nat.reduceAdd, List.set_cons_zero, List.set_cons_succ, getD_zero, getD_succ, fieldAt_zero, fieldAt_succ, thenD, blockD, retR, Sv.cells]; exact rfl) | exact rfl)); (· exact rfl); (· exact rfl); (· assumption); intro b1 H1 hB)
      | (apply op_at; (· exact rfl))
      | (apply dwp_cond_t; (· exact rfl); (· (first | with_reducible assumption | with_reducible rfl | decide)))
      | apply dwp_ret
      | fail)
    exact hk _ hB.drop1.drop1
  | false =>
    rw [if_neg (by simpa using hr)] at hk
    refine enter rfl Tryd.func57 rfl Tryd.ntmps57 rfl ?_
    dsimp only [List.cons_append, List.nil_append, List.length_cons, List.length_nil, List.replicate_succ, List.replicate_zero, Nat.reduceAdd, Nat.reduceSub]
    repeat' (first
      | dsimp only [putD, DV.cells, DH.new_next, DH.set_next, List.length_cons, List.length_nil, Nat.reduceAdd, List.set_cons_zero, List.set_cons_succ, getD_zero, getD_succ, fieldAt_zero, fieldAt_succ, thenD, blockD, retR]
      | (refine ⟨_, resOf_c (loadD_at rfl (Bx.get (by assumption) (by (repeat (first | with_reducible exact At.here | with_reducible apply At.there | with_reducible apply at_app)))) rfl (by (first | exact part57 _ _ _ _ | exact part49 _ _ | exact part49a _ _ _ _ _ _ _ _ _ | exact part49w _ _ _ _ _ _ _ _ _ | exact rfl))), ?_⟩)
      | apply dwp_seq
      | apply dwp_region
      | apply ops_nil
      | (apply ops_plain; (· exact rfl))
      | (apply op_told; (· exact rfl); (· exact congrArg (DV.int _) w2))
      | (apply bx_load0; (· exact rfl); (· exact rfl); (· assumption); (· (repeat (first | with_reducible exact At.here | with_reducible apply At.there | with_reducible apply at_app))); (· (first | exact part57 _ _ _ _ | exact part49 _ _ | exact part49a _ _ _ _ _ _ _ _ _ | exact part49w _ _ _ _ _ _ _ _ _ | exact rfl)))
      | (apply bx_store0; (· exact rfl); (· exact rfl); (· exact rfl); (· assumption); (· (first | (dsimp only [putD, DV.cells, DH.new_next, DH.set_next, List.length_cons, List.length_nil, Nat.reduceAdd, List.set_cons_zero, List.set_cons_succ, getD_zero, getD_succ, fieldAt_zero, fieldAt_succ, thenD, blockD, retR, Sv.cells]; done) | (dsimp only [putD, DV.cells, DH.new_next, DH.set_next, List.length_cons, List.length_nil, Nat.reduceAdd, List.set_cons_zero, List.set_cons_succ, getD_zero, getD_succ, fieldAt_zero, fieldAt_succ, thenD, blockD, retR, Sv.cells]; exact rfl) | exact rfl)); (· (repeat (first | with_reducible exact Upd.here | with_reducible apply Upd.there))); (· exact rfl); (· exact rfl); (· exact rfl); (· exact rfl); intro H1 hB)
      | (apply bx_store1; (· exact rfl); (· exact rfl); (· exact rfl); (· assumption); (· (first | (dsimp only [putD, DV.cells, DH.new_next, DH.set_next, List.length_cons, List.length_nil, Nat.reduceAdd, List.set_cons_zero, List.set_cons_succ, getD_zero, getD_succ, fieldAt_zero, fieldAt_succ, thenD, blockD, retR, Sv.cells]; done) | (dsimp only [putD, DV.cells, DH.new_next, DH.set_next, List.length_cons, List.length_nil, Nat.reduceAdd, List.set_cons_zero, List.set_cons_succ, getD_zero, getD_succ, fieldAt_zero, fieldAt_succ, thenD, blockD, retR, Sv.cells]; exact rfl) | exact rfl)); (· (repeat (first | with_reducible exact At.here | with_reducible apply At.there | with_reducible apply at_app))); (· (first | (dsimp only [splice, List.take_zero, List.take_succ_cons, List.length_cons, List.length_nil, Nat.reduceAdd, Nat.zero_add, List.drop_zero, List.drop_succ_cons, List.drop_nil, List.nil_append, List.cons_append, List.append_nil, List.take_nil]; done) | (dsimp only [splice, List.take_zero, List.take_succ_cons, List.length_cons, List.length_nil, Nat.reduceAdd, Nat.zero_add, List.drop_zero, List.drop_succ_cons, List.drop_nil, List.nil_append, List.cons_append, List.append_nil, List.take_nil]; exact rfl) | exact rfl)); (· (repeat (first | with_reducible exact Upd.here | with_reducible apply Upd.there))); (· exact Nat.le_of_ble_eq_true rfl); (· exact rfl); (· exact rfl); (· exact rfl); intro H1 hB)
      | (apply bx_box; (· exact rfl); (· exact rfl); (· (first | (dsimp only [putD, DV.cells, DH.new_next, DH.set_next, List.length_cons, List.length_nil, Nat.reduceAdd, List.set_cons_zero, List.set_cons_succ, getD_zero, getD_succ, fieldAt_zero, fieldAt_succ, thenD, blockD, retR, Sv.cells]; done) | (dsimp only [putD, DV.cells, DH.new_next, DH.set_next, List.length_cons, List.length_nil, Nat.reduceAdd, List.set_cons_zero, List.set_cons_succ, getD_zero, getD_succ, fieldAt_zero, fieldAt_succ, thenD, blockD, retR, Sv.cells]; exact rfl) | exact rfl)); (· exact rfl); (· exact rfl); (· assumption); intro b1 H1 hB)
      | (apply bx_alloc; (· exact rfl); (· exact zero49); (· (first | (dsimp only [putD, DV.cells, DH.new_next, DH.set_next, List.length_cons, List.length_nil, Nat.reduceAdd, List.set_cons_zero, List.set_cons_succ, getD_zero, getD_succ, fieldAt_zero, fieldAt_succ, thenD, blockD, retR, Sv.cells]; done) | (dsimp only [putD, DV.cells, DH.new_next, DH.set_next, List.length_cons, List.length_nil, Nat.reduceAdd, List.set_cons_zero, List.set_cons_succ, getD_zero, getD_succ, fieldAt_zero, fieldAt_succ, thenD, blockD, retR, Sv.cells]; exact rfl) | exact rfl)); (· exact rfl); (· exact rfl); (· assumption); intro b1 H1 hB)
      | (apply op_at; (· exact rfl))
      | (apply dwp_cond_f; (· exact rfl); (· (first | with_reducible assumption | with_reducible rfl | decide)))
      | apply dwp_skip
      | apply dwp_ret
      | fail)
    exact hk _ hB.drop1.drop1
/-! ### runes -/
/-- The rune at a text's front, and its width. -/
def decL (l : List UInt8) : Nat × Nat := Utf8.decode ⟨l.toArray⟩ 0
theorem get_drop (s : List UInt8) (i k : Nat) : (ByteArray.mk s.toArray).get! (i + k) = (ByteArray.mk (s.drop i).toArray).get! (0 + k) := by
  show s.toArray[i + k]! = (s.drop i).toArray[0 + k]!
  simp [getElem!_def, List.getElem?_drop]
theorem decode_drop (s : List UInt8) (i : Nat) (hi : i ≤ s.length) : Utf8.decode ⟨s.toArray⟩ i = decL (s.drop i) := by
  unfold decL Utf8.decode
  have hs : ∀ k, (i + k < (ByteArray.mk s.toArray).size) = (0 + k < (ByteArray.mk (s.drop i).toArray).size) := by
    intro k
    show (i + k < s.toArray.size) = (0 + k < (s.drop i).toArray.size)
    simp
    omega
  simp only [get_drop s i, hs]
theorem decL_width {l : List UInt8} (h : l ≠ []) : 1 ≤ (decL l).2 ∧ (decL l).2 ≤ l.length := by
  have hl : 0 < l.length := List.length_pos_iff.mpr h
  have hsz : (ByteArray.mk l.toArray).size = l.length := rfl
  unfold decL Utf8.decode
  simp only [hsz]
  split
  · exact ⟨Nat.le_refl _, hl⟩
  · split
    · rename_i h1
      simp only [Bool.and_eq_true, decide_eq_true_eq] at h1
      split <;> (simp only; omega)
    · split
      · rename_i h1
        simp only [Bool.and_eq_true, decide_eq_true_eq] at h1
        split <;> (simp only; omega)
      · split
        · rename_i h1
          simp only [Bool.and_eq_true, decide_eq_true_eq] at h1
          split <;> (simp only; omega)
        · exact ⟨Nat.le_refl _, hl⟩
theorem get_app (l m : List UInt8) (k : Nat) (h : k < l.length) : (ByteArray.mk (l ++ m).toArray).get! (0 + k) = (ByteArray.mk l.toArray).get! (0 + k) := by
  show (l ++ m).toArray[0 + k]! = l.toArray[0 + k]!
  simp [getElem!_def, List.getElem?_append_left h]
/-- A line's end cuts no rune. -/
theorem decL_app {l m : List UInt8} (h : l ≠ []) : decL (l ++ 10 :: m) = decL l := by
  have hl : 0 < l.length := List.length_pos_iff.mpr h
  have ga : ∀ k, k < l.length → (ByteArray.mk (l ++ 10 :: m).toArray).get! (0 + k) = (ByteArray.mk l.toArray).get! (0 + k) := fun k hk => get_app l _ k hk
  have gb : (ByteArray.mk (l ++ 10 :: m).toArray).get! (0 + l.length) = 10 := by
    show (l ++ 10 :: m).toArray[0 + l.length]! = 10
    simp [getElem!_def]
  have hs : (ByteArray.mk l.toArray).size = l.length := rfl
  have hs' : (ByteArray.mk (l ++ 10 :: m).toArray).size = l.length + (m.length + 1) := by
    show (l ++ 10 :: m).toArray.size = _
    simp
  have t10 : ((10 : UInt8).toNat / 64 == 2) = false := rfl
  unfold decL Utf8.decode
  simp only [hs, hs']
  have g0 := ga 0 hl
  by_cases h1 : l.length = 1
  · rw [h1] at gb ⊢
    simp only [g0, gb, t10, Bool.and_false, Bool.false_and, Nat.reduceAdd, Nat.lt_irrefl, decide_false, Bool.false_eq_true, if_false]
  · have g1 := ga 1 (by omega)
    have d1 : decide (0 + 1 < l.length + (m.length + 1)) = decide (0 + 1 < l.length) := by
      rw [decide_eq_true (by omega), decide_eq_true (by omega)]
    by_cases h2 : l.length = 2
    · rw [h2] at gb d1 ⊢
      simp only [g0, g1, gb, d1, t10, Bool.and_false, Bool.false_and, Nat.reduceAdd, Nat.lt_irrefl, decide_false, Bool.false_eq_true, if_false]
    · have g2 := ga 2 (by omega)
      have d2 : decide (0 + 2 < l.length + (m.length + 1)) = decide (0 + 2 < l.length) := by
        rw [decide_eq_true (by omega), decide_eq_true (by omega)]
      by_cases h3 : l.length = 3
      · rw [h3] at gb d1 d2 ⊢
        simp only [g0, g1, g2, gb, d1, d2, t10, Bool.and_false, Bool.false_and, Nat.reduceAdd, Nat.lt_irrefl, decide_false, Bool.false_eq_true, if_false]
      · have g3 := ga 3 (by omega)
        have d3 : decide (0 + 3 < l.length + (m.length + 1)) = decide (0 + 3 < l.length) := by
          rw [decide_eq_true (by omega), decide_eq_true (by omega)]
        simp only [g0, g1, g2, g3, d1, d2, d3]
/-- Is what stands at a text's front no rune? -/
def badL (l : List UInt8) : Bool := decide ((decL l).1 = 65533) && !([239, 191, 189].isPrefixOf l)
theorem badL_app {l m : List UInt8} (h : l ≠ []) : badL (l ++ 10 :: m) = badL l := by
  unfold badL
  rw [decL_app h]
  congr 2
  match l, h with
  | [a], _ => simp [List.isPrefixOf]
  | [a, b], _ => simp [List.isPrefixOf]
  | a :: b :: c :: t, _ => simp [List.isPrefixOf]
/-- A text's runes, each with the word whether it is none. -/
def runes (l : List UInt8) : List (Int × Bool) :=
  if h : l = [] then [] else ((((decL l).1 : Nat) : Int), badL l) :: runes (l.drop (decL l).2)
termination_by l.length
decreasing_by
  have h1 := decL_width h
  have h2 : 0 < l.length := List.length_pos_iff.mpr h
  rw [List.length_drop]; omega
theorem runes_nil : runes [] = [] := by rw [runes]; simp
theorem runes_cons {l : List UInt8} (h : l ≠ []) : runes l = ((((decL l).1 : Nat) : Int), badL l) :: runes (l.drop (decL l).2) := by
  rw [runes, dif_neg h]
theorem runes_app (m : List UInt8) : ∀ (n : Nat) (l : List UInt8), l.length ≤ n → runes (l ++ 10 :: m) = runes l ++ runes (10 :: m) := by
  intro n
  induction n with
  | zero =>
    intro l hl
    obtain rfl : l = [] := List.length_eq_zero_iff.mp (by omega)
    rw [runes_nil]; rfl
  | succ n ih =>
    intro l hl
    by_cases h : l = []
    · subst h; rw [runes_nil]; rfl
    · have hw := decL_width h
      rw [runes_cons (by simp : l ++ 10 :: m ≠ []), runes_cons h, decL_app h, badL_app h, List.drop_append_of_le_length hw.2, ih _ (by rw [List.length_drop]; omega)]
      rfl
theorem runes_ascii {c : UInt8} (hc : c.toNat < 128) (m : List UInt8) : runes (c :: m) = ((c.toNat : Int), false) :: runes m := by
  have hd : decL (c :: m) = (c.toNat, 1) := decode_ascii (s := c :: m) (k := 0) rfl hc
  have hb : badL (c :: m) = false := by
    unfold badL
    rw [hd]
    have : decide (c.toNat = 65533) = false := by simp; omega
    simp only [this, Bool.false_and]
  rw [runes_cons (by simp), hd, hb]
  rfl
end Go.Det.C

/- A text is cut. -/
namespace Go.Det.C
open Go Go.Det Go.Proofs
set_option maxRecDepth 4000
set_option maxHeartbeats 4000000
set_option linter.unusedVariables false
set_option linter.unusedSimpArgs false
theorem upd_app {b : Nat} {o o' : DObj} {pre l l' : List (Nat × DObj)} (h : Upd b o o' l l') : Upd b o o' (pre ++ l) (pre ++ l') := by
  induction pre with
  | nil => exact h
  | cons x pre ih => exact .there ih
theorem resOf_ttct {P : Program} {H : DH} {a b c d : Tmp} {t : TypeId} {env : List DV} {v : DV} (h : loadD P t H (env.getD c undefD) = some v) : resOf P [.tmp a, .tmp b, .cell c t, .tmp d] env H = some (.tuple [env.getD a undefD, env.getD b undefD, v, env.getD d undefD]) := by
  simp only [resOf, List.map_cons, List.map_nil, h]
  rfl
/-- One rune. -/
noncomputable def stepR (c : Cu) (p : Int × Int) (x : Int × Bool) : Cu := (if x.2 then (c.fin).fail p 4 else c).take p x.1
/-- What is cut out of runes. -/
noncomputable def goR : List (Int × Bool) → Cu → Int × Int → Cu
  | [], c, p => c.fin
  | x :: r, c, p => if (stepR c p x).e = 0 then goR r (stepR c p x) (nextP p x.1) else stepR c p x
def cu0 : Cu := ⟨[], [], [], (0, 0), false, (0, 0), 0⟩
noncomputable def cutF (s : List UInt8) : Cu := goR (runes s) cu0 (1, 1)
theorem take_len (c : Cu) (p : Int × Int) (r : Int) : (c.take p r).toks.length ≤ c.toks.length + 2 ∧ (c.take p r).places.length ≤ c.places.length + 2 ∧ (c.take p r).piece.length ≤ c.piece.length + 1 := by
  unfold Cu.take
  split
  · exact ⟨by omega, by omega, by omega⟩
  · split
    · simp
    · have h := fin_len { c with remark := false }
      simp only at h
      obtain ⟨h1, h2, h3, h4⟩ := h
      simp only
      split
      · rw [h3]; exact ⟨by omega, by omega, by simp⟩
      · split
        · simp only [h3]; exact ⟨by omega, by omega, by simp⟩
        · split
          · unfold Cu.add; simp only [List.length_append, List.length_cons, List.length_nil, h3]; exact ⟨by omega, by omega, by omega⟩
          · split
            · simp only [List.length_append, List.length_cons, List.length_nil, h3]; exact ⟨by omega, by omega, by omega⟩
            · obtain ⟨k1, k2, k3, k4⟩ := fail_same (Cu.fin { c with remark := false }) p 4
              rw [k1, k2, k3, h3]; exact ⟨by omega, by omega, by simp⟩
theorem step_len (c : Cu) (p : Int × Int) (x : Int × Bool) : (stepR c p x).toks.length ≤ c.toks.length + 3 ∧ (stepR c p x).places.length ≤ c.places.length + 3 ∧ (stepR c p x).piece.length ≤ c.piece.length + 1 := by
  unfold stepR
  obtain ⟨h1, h2, h3, h4⟩ := fin_len c
  obtain ⟨k1, k2, k3, k4⟩ := fail_same c.fin p 4
  split
  · obtain ⟨t1, t2, t3⟩ := take_len (c.fin.fail p 4) p x.1
    rw [k1] at t1; rw [k2] at t2; rw [k3, h3] at t3
    simp only [List.length_nil] at t3
    exact ⟨by omega, by omega, by omega⟩
  · obtain ⟨t1, t2, t3⟩ := take_len c p x.1
    exact ⟨by omega, by omega, by omega⟩
section
variable {A H : DH} {bs : List (Nat × DObj)} {fs : List (DH → Prop)} {K : DV → DH → Prop}
theorem cut24 {s : List UInt8} (hs : s.length ≤ 65536) (hB : Bx A H bs fs)
    (hk1 : (cutF s).e ≠ 0 → ∀ H', Bx A H' bs fs → K (.tuple [.sl none 0 0 true, .sl none 0 0 true, .agg [.int .i64 (cutF s).w.1, .int .i64 (cutF s).w.2], .int .i64 (cutF s).e]) H')
    (hk2 : (cutF s).e = 0 → ∀ (s1 s2 : Sv) x1 x2 H', Own1 4 ((cutF s).toks.map Tok.row) s1.dv x1 → Own1 2 ((cutF s).places.map placeRow) s2.dv x2 → Bx A H' (x1 ++ (x2 ++ bs)) fs → K (.tuple [s1.dv, s2.dv, .agg [.int .i64 0, .int .i64 0], .int .i64 0]) H') :
    CallWp Tryd.prog X3 24 [.str s] H K := by
  have hl0 : decide ((s.length : Int) > 65536) = false := by simp; omega
  refine enter rfl Tryd.func24 rfl Tryd.ntmps24 rfl ?_
  dsimp only [List.cons_append, List.nil_append, List.length_cons, List.length_nil, List.replicate_succ, List.replicate_zero, Nat.reduceAdd, Nat.reduceSub]
  repeat' (first
    | dsimp only [putD, DV.cells, DH.new_next, DH.set_next, List.length_cons, List.length_nil, Nat.reduceAdd, List.set_cons_zero, List.set_cons_succ, getD_zero, getD_succ, fieldAt_zero, fieldAt_succ, thenD, blockD, retR]
    | apply dwp_seq
    | apply dwp_region
    | apply ops_nil
    | (apply ops_plain; (· exact rfl))
    | (apply bx_range; (· exact rfl); (· exact rfl); (· exact rfl); (· assumption); intro bi H1 hB)
    | (apply bx_store0; (· exact rfl); (· exact rfl); (· exact rfl); (· assumption); (· (first | (dsimp only [putD, DV.cells, DH.new_next, DH.set_next, List.length_cons, List.length_nil, Nat.reduceAdd, List.set_cons_zero, List.set_cons_succ, getD_zero, getD_succ, fieldAt_zero, fieldAt_succ, thenD, blockD, retR, Sv.cells]; done) | (dsimp only [putD, DV.cells, DH.new_next, DH.set_next, List.length_cons, List.length_nil, Nat.reduceAdd, List.set_cons_zero, List.set_cons_succ, getD_zero, getD_succ, fieldAt_zero, fieldAt_succ, thenD, blockD, retR, Sv.cells]; exact rfl) | exact rfl)); (· (repeat (first | with_reducible exact Upd.here | with_reducible apply Upd.there | with_reducible apply upd_app))); (· exact rfl); (· exact rfl); (· exact rfl); (· exact rfl); intro H1 hB)
    | (apply bx_box; (· exact rfl); (· exact rfl); (· (first | (dsimp only [putD, DV.cells, DH.new_next, DH.set_next, List.length_cons, List.length_nil, Nat.reduceAdd, List.set_cons_zero, List.set_cons_succ, getD_zero, getD_succ, fieldAt_zero, fieldAt_succ, thenD, blockD, retR, Sv.cells]; done) | (dsimp only [putD, DV.cells, DH.new_next, DH.set_next, List.length_cons, List.length_nil, Nat.reduceAdd, List.set_cons_zero, List.set_cons_succ, getD_zero, getD_succ, fieldAt_zero, fieldAt_succ, thenD, blockD, retR, Sv.cells]; exact rfl) | exact rfl)); (· exact rfl); (· exact rfl); (· assumption); intro b1 H1 hB)
    | (apply bx_alloc; (· exact rfl); (· exact zero49); (· (first | (dsimp only [putD, DV.cells, DH.new_next, DH.set_next, List.length_cons, List.length_nil, Nat.reduceAdd, List.set_cons_zero, List.set_cons_succ, getD_zero, getD_succ, fieldAt_zero, fieldAt_succ, thenD, blockD, retR, Sv.cells]; done) | (dsimp only [putD, DV.cells, DH.new_next, DH.set_next, List.length_cons, List.length_nil, Nat.reduceAdd, List.set_cons_zero, List.set_cons_succ, getD_zero, getD_succ, fieldAt_zero, fieldAt_succ, thenD, blockD, retR, Sv.cells]; exact rfl) | exact rfl)); (· exact rfl); (· exact rfl); (· assumption); intro b1 H1 hB)
    | (apply op_at; (· exact rfl))
    | (apply dwp_cond_f; (· exact rfl); (· (first | with_reducible assumption | with_reducible rfl | decide)))
    | apply dwp_block
    | apply dwp_skip
    | fail)
  refine dwp_loop (fun st => ∃ (b4 b6 bi bc : Nat) (H1 : DH) (pos : Nat) (c : Cu) (p : Int × Int), ∃ J : Nat → DV, (Rep A H1 bc c ((bi, .iter s pos) :: (b6, .rows false 2 [[.int .i64 p.1, .int .i64 p.2]]) :: (b4, .rows false 2 [[.int .i64 0, .int .i64 0]]) :: bs) fs ∧ c.e = 0 ∧ pos ≤ s.length ∧ c.toks.length ≤ 3 * pos ∧ c.places.length ≤ 3 * pos ∧ c.piece.length ≤ pos ∧ (0 ≤ p.1 ∧ p.1 ≤ pos + 1 ∧ 0 ≤ p.2 ∧ p.2 ≤ pos + 1) ∧ goR (runes (s.drop pos)) c p = cutF s) ∧ st = ⟨(.str s :: J 1 :: .sl none 0 0 true :: .sl none 0 0 true :: .ptr (some (b4, 0, 0)) :: .int .i64 0 :: .ptr (some (b6, 0, 0)) :: .ptr (some (bc, 0, 0)) :: J 8 :: J 9 :: J 10 :: J 11 :: J 12 :: J 13 :: J 14 :: J 15 :: J 16 :: J 17 :: .ptr (some (bi, 0, 0)) :: J 19 :: J 20 :: J 21 :: J 22 :: J 23 :: J 24 :: J 25 :: J 26 :: J 27 :: J 28 :: J 29 :: J 30 :: J 31 :: J 32 :: J 33 :: J 34 :: J 35 :: J 36 :: J 37 :: J 38 :: J 39 :: J 40 :: J 41 :: J 42 :: J 43 :: J 44 :: J 45 :: J 46 :: J 47 :: J 48 :: J 49 :: J 50 :: J 51 :: J 52 :: J 53 :: J 54 :: J 55 :: J 56 :: J 57 :: J 58 :: J 59 :: J 60 :: J 61 :: J 62 :: J 63 :: J 64 :: J 65 :: J 66 :: J 67 :: J 68 :: J 69 :: J 70 :: J 71 :: J 72 :: J 73 :: J 74 :: J 75 :: J 76 :: J 77 :: J 78 :: J 79 :: J 80 :: []), H1⟩) (fun st => s.length - posOf st 18) (⟨_, _, _, _, _, 0, cu0, (1, 1), junk_facts (⟨Rep.of1 (c := cu0) (s1 := ⟨none, 0, 0, true⟩) (s2 := ⟨none, 0, 0, true⟩) (s3 := ⟨none, 0, 0, true⟩) (x1 := []) (x2 := []) (x3 := []) (.nil rfl) (.nil rfl) (.nil rfl) hB, rfl, Nat.zero_le _, Nat.zero_le _, Nat.zero_le _, Nat.zero_le _, ⟨by decide, by decide, by decide, by decide⟩, rfl⟩) rfl rfl⟩) ?_
  rintro st ⟨b4, b6, bi, bc, H1, pos, c, p, J, ⟨hR, he, hpos, ht, hp, hpc, hpp, hgo⟩, rfl⟩
  by_cases hlt : pos < s.length
  · have hne : s.drop pos ≠ [] := by
      intro h
      have := congrArg List.length h
      rw [List.length_drop] at this
      simp at this
      omega
    obtain ⟨cn, w, hcw⟩ : ∃ cn w, decL (s.drop pos) = (cn, w) := ⟨_, _, rfl⟩
    have hww := decL_width hne
    rw [hcw, List.length_drop] at hww
    simp only at hww
    have hdec : Utf8.decode ⟨s.toArray⟩ pos = (cn, w) := by rw [decode_drop s pos hpos, hcw]
    rw [runes_cons hne, hcw] at hgo
    unfold goR at hgo
    obtain ⟨c1, hc1⟩ : ∃ c1, stepR c p ((cn : Int), badL (s.drop pos)) = c1 := ⟨_, rfl⟩
    simp only [hc1] at hgo
    have hsl := step_len c p ((cn : Int), badL (s.drop pos))
    rw [hc1] at hsl
    unfold stepR at hc1
    have hin : 0 ≤ (pos : Int) ∧ (pos : Int) ≤ (s.length : Int) := by omega
    have hr0 : 0 ≤ (cn : Int) := by omega
    have b1 : c.toks.length + 1 ≤ 1000000 := by omega
    have b2 : c.places.length + 1 ≤ 1000000 := by omega
    have b3 : c.piece.length ≤ 65536 := by omega
    have b4 : 0 ≤ p.1 ∧ p.1 ≤ 1000000 := by omega
    have b5 : 0 ≤ p.2 ∧ p.2 ≤ 1000000 := by omega
    obtain ⟨f1, f2, f3, f4⟩ := fin_len c
    obtain ⟨g1, g2, g3, g4⟩ := fail_same c.fin p 4
    have t1 : c.toks.length + 1 ≤ 900000 := by omega
    have t2 : c.places.length + 1 ≤ 900000 := by omega
    have u1 : (c.fin.fail p 4).toks.length + 1 ≤ 900000 := by rw [g1]; omega
    have u2 : (c.fin.fail p 4).places.length + 1 ≤ 900000 := by rw [g2]; omega
    have u3 : (c.fin.fail p 4).piece.length ≤ 65536 := by rw [g3, f3]; exact Nat.zero_le _
    obtain ⟨s1, s2, s3, x1, x2, x3, o1, o2, o3, hB⟩ := hR.ex
    have hB0 := hB
    have hnx : (pos : Int).toNat = pos := Int.toNat_natCast _
    cases hF : ((cn : Int) == 65533) with
    | true =>
      have hF' : decide (cn = 65533) = true := by
        have h : (cn : Int) = 65533 := by simpa using hF
        simp; omega
      cases hP : [239, 191, 189].isPrefixOf (s.drop pos) with
      | true =>
        have hbad : badL (s.drop pos) = false := by unfold badL; rw [hcw, hP]; simp
        rw [hbad, if_neg (by simp)] at hc1
        cases he1 : (c1.e != 0) with
        | true =>
          have he1' : c1.e ≠ 0 := by simpa using he1
          rw [if_neg he1'] at hgo
          rw [← hgo] at hk1
          repeat' (first
            | dsimp only [putD, DV.cells, DH.new_next, DH.set_next, List.length_cons, List.length_nil, Nat.reduceAdd, List.set_cons_zero, List.set_cons_succ, getD_zero, getD_succ, fieldAt_zero, fieldAt_succ, thenD, blockD, retR]
            | (refine ⟨_, resOf_ttct (loadD_at rfl (Bx.get (by assumption) (by (repeat (first | with_reducible exact At.here | with_reducible apply At.there | with_reducible apply at_app)))) rfl (by (first | exact part57 _ _ _ _ | exact part49 _ _ | exact part49a _ _ _ _ _ _ _ _ _ | exact part49w _ _ _ _ _ _ _ _ _ | exact rfl))), ?_⟩)
            | refine dwp_drawr _ rfl (fun H' => Bx A H' [(bc, .rows false 9 [c1.row s1 s2 s3])] fs) (hB.sub (by (repeat (first | exact List.Sublist.refl _ | exact List.nil_sublist _ | apply List.Sublist.cons_cons | apply List.Sublist.cons | apply List.Sublist.append_left | refine List.Sublist.trans ?_ (List.sublist_append_right _ _))))) ?_
            | apply drawr_nil
            | (apply drawr_read; (· (first | exact wanted_plain rfl | (apply wanted_on; (· exact rfl); (· exact rfl); (· (first | with_reducible assumption | with_reducible rfl | decide))))); (· exact rfl); (· exact rfl); (· intro H' h; have h : Bx _ H' _ _ := h; exact opD_load rfl rfl (h.get (by (repeat (first | with_reducible exact At.here | with_reducible apply At.there | with_reducible apply at_app)))) rfl (by (first | exact part57 _ _ _ _ | exact part49 _ _ | exact part49a _ _ _ _ _ _ _ _ _ | exact part49w _ _ _ _ _ _ _ _ _ | exact rfl))))
            | (apply drawr_pure; (· (first | exact wanted_plain rfl | (apply wanted_on; (· exact rfl); (· exact rfl); (· (first | with_reducible assumption | with_reducible rfl | decide))))); (· exact rfl); (· exact rfl); (· exact rfl))
            | (apply drawr_move; (· (first | exact wanted_plain rfl | (apply wanted_on; (· exact rfl); (· exact rfl); (· (first | with_reducible assumption | with_reducible rfl | decide))))); (· exact rfl))
            | refine ⟨(hB.sub (by (repeat (first | exact List.Sublist.refl _ | exact List.nil_sublist _ | apply List.Sublist.cons_cons | apply List.Sublist.cons | apply List.Sublist.append_left | refine List.Sublist.trans ?_ (List.sublist_append_right _ _))))), ?_⟩
            | apply dwp_seq
            | apply dwp_region
            | apply ops_nil
            | (apply ops_plain; (· exact rfl))
            | (apply ops_on; (· exact rfl); (· exact rfl); (· (first | with_reducible assumption | with_reducible rfl | decide)))
            | (apply op_call; (· exact rfl); (· exact rfl); (· exact rfl); (refine (CallWp.up up03 (hasPrefix53 _ _ _)).mono ?_; rintro r0 H' ⟨rfl, rfl⟩; rw [hnx, hP]))
            | (apply op_call; (· exact rfl); (· exact rfl); (· exact rfl); (apply take56 (c := c); (· exact hr0); (· exact t1); (· exact t2); (· exact b3); (· exact (⟨s1, s2, s3, x1, x2, x3, o1, o2, o3, hB⟩ : Rep _ _ _ c _ _)); intro r1 H1 hR1; replace hR1 : Rep _ _ _ c1 _ _ := hc1 ▸ hR1; obtain ⟨s1, s2, s3, x1, x2, x3, o1, o2, o3, hB⟩ := hR1.ex))
            | (apply op_pick_t; (· exact rfl); (· exact rfl); (· (first | with_reducible assumption | with_reducible rfl | decide)); (· exact rfl))
            | (apply bx_next (c := cn) (w := w); (· exact rfl); (· exact rfl); (· assumption); (· (repeat (first | with_reducible exact Upd.here | with_reducible apply Upd.there | with_reducible apply upd_app))); (· exact hlt); (· exact hdec); intro H1 hB)
            | (apply op_at; (· exact opD_strDrop rfl rfl rfl rfl hin))
            | (apply bx_load0; (· exact rfl); (· exact rfl); (· assumption); (· (repeat (first | with_reducible exact At.here | with_reducible apply At.there | with_reducible apply at_app))); (· (first | exact part57 _ _ _ _ | exact part49 _ _ | exact part49a _ _ _ _ _ _ _ _ _ | exact part49w _ _ _ _ _ _ _ _ _ | exact rfl)))
            | (apply bx_store0; (· exact rfl); (· exact rfl); (· exact rfl); (· assumption); (· (first | (dsimp only [putD, DV.cells, DH.new_next, DH.set_next, List.length_cons, List.length_nil, Nat.reduceAdd, List.set_cons_zero, List.set_cons_succ, getD_zero, getD_succ, fieldAt_zero, fieldAt_succ, thenD, blockD, retR, Sv.cells]; done) | (dsimp only [putD, DV.cells, DH.new_next, DH.set_next, List.length_cons, List.length_nil, Nat.reduceAdd, List.set_cons_zero, List.set_cons_succ, getD_zero, getD_succ, fieldAt_zero, fieldAt_succ, thenD, blockD, retR, Sv.cells]; exact rfl) | exact rfl)); (· (repeat (first | with_reducible exact Upd.here | with_reducible apply Upd.there | with_reducible apply upd_app))); (· exact rfl); (· exact rfl); (· exact rfl); (· exact rfl); intro H1 hB)
            | (apply op_at; (· exact rfl))
            | (apply dwp_cond_t; (· exact rfl); (· (first | with_reducible assumption | with_reducible rfl | decide)))
            | (apply dwp_cond_f; (· exact rfl); (· (first | with_reducible assumption | with_reducible rfl | decide)))
            | apply dwp_block
            | apply dwp_skip
            | apply dwp_ret
            | fail)
          exact hk1 he1' _ (hB.sub (by (repeat (first | exact List.Sublist.refl _ | exact List.nil_sublist _ | apply List.Sublist.cons_cons | apply List.Sublist.cons | apply List.Sublist.append_left | refine List.Sublist.trans ?_ (List.sublist_append_right _ _)))))
        | false =>
          have he1' : c1.e = 0 := by simpa using he1
          rw [if_pos he1', List.drop_drop] at hgo
          repeat' (first
            | dsimp only [putD, DV.cells, DH.new_next, DH.set_next, List.length_cons, List.length_nil, Nat.reduceAdd, List.set_cons_zero, List.set_cons_succ, getD_zero, getD_succ, fieldAt_zero, fieldAt_succ, thenD, blockD, retR]
            | apply dwp_seq
            | apply dwp_region
            | apply ops_nil
            | (apply ops_plain; (· exact rfl))
            | (apply ops_on; (· exact rfl); (· exact rfl); (· (first | with_reducible assumption | with_reducible rfl | decide)))
            | (apply op_call; (· exact rfl); (· exact rfl); (· exact rfl); (refine (CallWp.up up03 (hasPrefix53 _ _ _)).mono ?_; rintro r0 H' ⟨rfl, rfl⟩; rw [hnx, hP]))
            | (apply op_call; (· exact rfl); (· exact rfl); (· exact rfl); (apply take56 (c := c); (· exact hr0); (· exact t1); (· exact t2); (· exact b3); (· exact (⟨s1, s2, s3, x1, x2, x3, o1, o2, o3, hB⟩ : Rep _ _ _ c _ _)); intro r1 H1 hR1; replace hR1 : Rep _ _ _ c1 _ _ := hc1 ▸ hR1; obtain ⟨s1, s2, s3, x1, x2, x3, o1, o2, o3, hB⟩ := hR1.ex))
            | (apply op_call; (· exact rfl); (· exact rfl); (· exact rfl); (apply next57; (· exact b4); (· exact b5); (· assumption); intro H1 hB))
            | (apply op_pick_t; (· exact rfl); (· exact rfl); (· (first | with_reducible assumption | with_reducible rfl | decide)); (· exact rfl))
            | (apply bx_next (c := cn) (w := w); (· exact rfl); (· exact rfl); (· assumption); (· (repeat (first | with_reducible exact Upd.here | with_reducible apply Upd.there | with_reducible apply upd_app))); (· exact hlt); (· exact hdec); intro H1 hB)
            | (apply op_at; (· exact opD_strDrop rfl rfl rfl rfl hin))
            | (apply bx_load0; (· exact rfl); (· exact rfl); (· assumption); (· (repeat (first | with_reducible exact At.here | with_reducible apply At.there | with_reducible apply at_app))); (· (first | exact part57 _ _ _ _ | exact part49 _ _ | exact part49a _ _ _ _ _ _ _ _ _ | exact part49w _ _ _ _ _ _ _ _ _ | exact rfl)))
            | (apply bx_store0; (· exact rfl); (· exact rfl); (· exact rfl); (· assumption); (· (first | (dsimp only [putD, DV.cells, DH.new_next, DH.set_next, List.length_cons, List.length_nil, Nat.reduceAdd, List.set_cons_zero, List.set_cons_succ, getD_zero, getD_succ, fieldAt_zero, fieldAt_succ, thenD, blockD, retR, Sv.cells]; done) | (dsimp only [putD, DV.cells, DH.new_next, DH.set_next, List.length_cons, List.length_nil, Nat.reduceAdd, List.set_cons_zero, List.set_cons_succ, getD_zero, getD_succ, fieldAt_zero, fieldAt_succ, thenD, blockD, retR, Sv.cells]; exact rfl) | exact rfl)); (· (repeat (first | with_reducible exact Upd.here | with_reducible apply Upd.there | with_reducible apply upd_app))); (· exact rfl); (· exact rfl); (· exact rfl); (· exact rfl); intro H1 hB)
            | (apply op_at; (· exact rfl))
            | (apply dwp_cond_t; (· exact rfl); (· (first | with_reducible assumption | with_reducible rfl | decide)))
            | (apply dwp_cond_f; (· exact rfl); (· (first | with_reducible assumption | with_reducible rfl | decide)))
            | apply dwp_block
            | apply dwp_skip
            | fail)
          refine ⟨⟨_, _, _, _, _, pos + w, c1, nextP p (cn : Int), junk_facts ⟨⟨s1, s2, s3, x1, x2, x3, o1, o2, o3, hB⟩, he1', by omega, by omega, by omega, by omega, by unfold nextP; split <;> (simp only; omega), hgo⟩ rfl rfl⟩, ?_⟩
          rw [posOf_at rfl (hB.get (by (repeat (first | with_reducible exact At.here | with_reducible apply At.there | with_reducible apply at_app)))), posOf_at rfl (hB0.get (by (repeat (first | with_reducible exact At.here | with_reducible apply At.there | with_reducible apply at_app))))]
          omega
      | false =>
        have hbad : badL (s.drop pos) = true := by unfold badL; rw [hcw, hP]; simpa using hF'
        rw [hbad, if_pos rfl] at hc1
        cases he1 : (c1.e != 0) with
        | true =>
          have he1' : c1.e ≠ 0 := by simpa using he1
          rw [if_neg he1'] at hgo
          rw [← hgo] at hk1
          repeat' (first
            | dsimp only [putD, DV.cells, DH.new_next, DH.set_next, List.length_cons, List.length_nil, Nat.reduceAdd, List.set_cons_zero, List.set_cons_succ, getD_zero, getD_succ, fieldAt_zero, fieldAt_succ, thenD, blockD, retR]
            | (refine ⟨_, resOf_ttct (loadD_at rfl (Bx.get (by assumption) (by (repeat (first | with_reducible exact At.here | with_reducible apply At.there | with_reducible apply at_app)))) rfl (by (first | exact part57 _ _ _ _ | exact part49 _ _ | exact part49a _ _ _ _ _ _ _ _ _ | exact part49w _ _ _ _ _ _ _ _ _ | exact rfl))), ?_⟩)
            | refine dwp_drawr _ rfl (fun H' => Bx A H' [(bc, .rows false 9 [c1.row s1 s2 s3])] fs) (hB.sub (by (repeat (first | exact List.Sublist.refl _ | exact List.nil_sublist _ | apply List.Sublist.cons_cons | apply List.Sublist.cons | apply List.Sublist.append_left | refine List.Sublist.trans ?_ (List.sublist_append_right _ _))))) ?_
            | apply drawr_nil
            | (apply drawr_read; (· (first | exact wanted_plain rfl | (apply wanted_on; (· exact rfl); (· exact rfl); (· (first | with_reducible assumption | with_reducible rfl | decide))))); (· exact rfl); (· exact rfl); (· intro H' h; have h : Bx _ H' _ _ := h; exact opD_load rfl rfl (h.get (by (repeat (first | with_reducible exact At.here | with_reducible apply At.there | with_reducible apply at_app)))) rfl (by (first | exact part57 _ _ _ _ | exact part49 _ _ | exact part49a _ _ _ _ _ _ _ _ _ | exact part49w _ _ _ _ _ _ _ _ _ | exact rfl))))
            | (apply drawr_pure; (· (first | exact wanted_plain rfl | (apply wanted_on; (· exact rfl); (· exact rfl); (· (first | with_reducible assumption | with_reducible rfl | decide))))); (· exact rfl); (· exact rfl); (· exact rfl))
            | (apply drawr_move; (· (first | exact wanted_plain rfl | (apply wanted_on; (· exact rfl); (· exact rfl); (· (first | with_reducible assumption | with_reducible rfl | decide))))); (· exact rfl))
            | refine ⟨(hB.sub (by (repeat (first | exact List.Sublist.refl _ | exact List.nil_sublist _ | apply List.Sublist.cons_cons | apply List.Sublist.cons | apply List.Sublist.append_left | refine List.Sublist.trans ?_ (List.sublist_append_right _ _))))), ?_⟩
            | apply dwp_seq
            | apply dwp_region
            | apply ops_nil
            | (apply ops_plain; (· exact rfl))
            | (apply ops_on; (· exact rfl); (· exact rfl); (· (first | with_reducible assumption | with_reducible rfl | decide)))
            | (apply op_call; (· exact rfl); (· exact rfl); (· exact rfl); (refine (CallWp.up up03 (hasPrefix53 _ _ _)).mono ?_; rintro r0 H' ⟨rfl, rfl⟩; rw [hnx, hP]))
            | (apply op_call; (· exact rfl); (· exact rfl); (· exact rfl); (apply end54 (c := c); (· exact b1); (· exact b2); (· exact b3); (· exact (⟨s1, s2, s3, x1, x2, x3, o1, o2, o3, hB⟩ : Rep _ _ _ c _ _)); intro r1 H1 hR1; obtain ⟨s1, s2, s3, x1, x2, x3, o1, o2, o3, hB⟩ := hR1.ex))
            | (apply op_call; (· exact rfl); (· exact rfl); (· exact rfl); (apply fail55 (c := c.fin); (· exact (⟨s1, s2, s3, x1, x2, x3, o1, o2, o3, hB⟩ : Rep _ _ _ c.fin _ _)); intro r1 H1 hR1; obtain ⟨s1, s2, s3, x1, x2, x3, o1, o2, o3, hB⟩ := hR1.ex))
            | (apply op_call; (· exact rfl); (· exact rfl); (· exact rfl); (apply take56 (c := c.fin.fail p 4); (· exact hr0); (· exact u1); (· exact u2); (· exact u3); (· exact (⟨s1, s2, s3, x1, x2, x3, o1, o2, o3, hB⟩ : Rep _ _ _ (c.fin.fail p 4) _ _)); intro r1 H1 hR1; replace hR1 : Rep _ _ _ c1 _ _ := hc1 ▸ hR1; obtain ⟨s1, s2, s3, x1, x2, x3, o1, o2, o3, hB⟩ := hR1.ex))
            | (apply op_pick_t; (· exact rfl); (· exact rfl); (· (first | with_reducible assumption | with_reducible rfl | decide)); (· exact rfl))
            | (apply bx_next (c := cn) (w := w); (· exact rfl); (· exact rfl); (· assumption); (· (repeat (first | with_reducible exact Upd.here | with_reducible apply Upd.there | with_reducible apply upd_app))); (· exact hlt); (· exact hdec); intro H1 hB)
            | (apply op_at; (· exact opD_strDrop rfl rfl rfl rfl hin))
            | (apply bx_load0; (· exact rfl); (· exact rfl); (· assumption); (· (repeat (first | with_reducible exact At.here | with_reducible apply At.there | with_reducible apply at_app))); (· (first | exact part57 _ _ _ _ | exact part49 _ _ | exact part49a _ _ _ _ _ _ _ _ _ | exact part49w _ _ _ _ _ _ _ _ _ | exact rfl)))
            | (apply bx_store0; (· exact rfl); (· exact rfl); (· exact rfl); (· assumption); (· (first | (dsimp only [putD, DV.cells, DH.new_next, DH.set_next, List.length_cons, List.length_nil, Nat.reduceAdd, List.set_cons_zero, List.set_cons_succ, getD_zero, getD_succ, fieldAt_zero, fieldAt_succ, thenD, blockD, retR, Sv.cells]; done) | (dsimp only [putD, DV.cells, DH.new_next, DH.set_next, List.length_cons, List.length_nil, Nat.reduceAdd, List.set_cons_zero, List.set_cons_succ, getD_zero, getD_succ, fieldAt_zero, fieldAt_succ, thenD, blockD, retR, Sv.cells]; exact rfl) | exact rfl)); (· (repeat (first | with_reducible exact Upd.here | with_reducible apply Upd.there | with_reducible apply upd_app))); (· exact rfl); (· exact rfl); (· exact rfl); (· exact rfl); intro H1 hB)
            | (apply op_at; (· exact rfl))
            | (apply dwp_cond_t; (· exact rfl); (· (first | with_reducible assumption | with_reducible rfl | decide)))
            | apply dwp_block
            | apply dwp_skip
            | apply dwp_ret
            | fail)
          exact hk1 he1' _ (hB.sub (by (repeat (first | exact List.Sublist.refl _ | exact List.nil_sublist _ | apply List.Sublist.cons_cons | apply List.Sublist.cons | apply List.Sublist.append_left | refine List.Sublist.trans ?_ (List.sublist_append_right _ _)))))
        | false =>
          have he1' : c1.e = 0 := by simpa using he1
          rw [if_pos he1', List.drop_drop] at hgo
          repeat' (first
            | dsimp only [putD, DV.cells, DH.new_next, DH.set_next, List.length_cons, List.length_nil, Nat.reduceAdd, List.set_cons_zero, List.set_cons_succ, getD_zero, getD_succ, fieldAt_zero, fieldAt_succ, thenD, blockD, retR]
            | apply dwp_seq
            | apply dwp_region
            | apply ops_nil
            | (apply ops_plain; (· exact rfl))
            | (apply ops_on; (· exact rfl); (· exact rfl); (· (first | with_reducible assumption | with_reducible rfl | decide)))
            | (apply op_call; (· exact rfl); (· exact rfl); (· exact rfl); (refine (CallWp.up up03 (hasPrefix53 _ _ _)).mono ?_; rintro r0 H' ⟨rfl, rfl⟩; rw [hnx, hP]))
            | (apply op_call; (· exact rfl); (· exact rfl); (· exact rfl); (apply end54 (c := c); (· exact b1); (· exact b2); (· exact b3); (· exact (⟨s1, s2, s3, x1, x2, x3, o1, o2, o3, hB⟩ : Rep _ _ _ c _ _)); intro r1 H1 hR1; obtain ⟨s1, s2, s3, x1, x2, x3, o1, o2, o3, hB⟩ := hR1.ex))
            | (apply op_call; (· exact rfl); (· exact rfl); (· exact rfl); (apply fail55 (c := c.fin); (· exact (⟨s1, s2, s3, x1, x2, x3, o1, o2, o3, hB⟩ : Rep _ _ _ c.fin _ _)); intro r1 H1 hR1; obtain ⟨s1, s2, s3, x1, x2, x3, o1, o2, o3, hB⟩ := hR1.ex))
            | (apply op_call; (· exact rfl); (· exact rfl); (· exact rfl); (apply take56 (c := c.fin.fail p 4); (· exact hr0); (· exact u1); (· exact u2); (· exact u3); (· exact (⟨s1, s2, s3, x1, x2, x3, o1, o2, o3, hB⟩ : Rep _ _ _ (c.fin.fail p 4) _ _)); intro r1 H1 hR1; replace hR1 : Rep _ _ _ c1 _ _ := hc1 ▸ hR1; obtain ⟨s1, s2, s3, x1, x2, x3, o1, o2, o3, hB⟩ := hR1.ex))
            | (apply op_call; (· exact rfl); (· exact rfl); (· exact rfl); (apply next57; (· exact b4); (· exact b5); (· assumption); intro H1 hB))
            | (apply op_pick_t; (· exact rfl); (· exact rfl); (· (first | with_reducible assumption | with_reducible rfl | decide)); (· exact rfl))
            | (apply bx_next (c := cn) (w := w); (· exact rfl); (· exact rfl); (· assumption); (· (repeat (first | with_reducible exact Upd.here | with_reducible apply Upd.there | with_reducible apply upd_app))); (· exact hlt); (· exact hdec); intro H1 hB)
            | (apply op_at; (· exact opD_strDrop rfl rfl rfl rfl hin))
            | (apply bx_load0; (· exact rfl); (· exact rfl); (· assumption); (· (repeat (first | with_reducible exact At.here | with_reducible apply At.there | with_reducible apply at_app))); (· (first | exact part57 _ _ _ _ | exact part49 _ _ | exact part49a _ _ _ _ _ _ _ _ _ | exact part49w _ _ _ _ _ _ _ _ _ | exact rfl)))
            | (apply bx_store0; (· exact rfl); (· exact rfl); (· exact rfl); (· assumption); (· (first | (dsimp only [putD, DV.cells, DH.new_next, DH.set_next, List.length_cons, List.length_nil, Nat.reduceAdd, List.set_cons_zero, List.set_cons_succ, getD_zero, getD_succ, fieldAt_zero, fieldAt_succ, thenD, blockD, retR, Sv.cells]; done) | (dsimp only [putD, DV.cells, DH.new_next, DH.set_next, List.length_cons, List.length_nil, Nat.reduceAdd, List.set_cons_zero, List.set_cons_succ, getD_zero, getD_succ, fieldAt_zero, fieldAt_succ, thenD, blockD, retR, Sv.cells]; exact rfl) | exact rfl)); (· (repeat (first | with_reducible exact Upd.here | with_reducible apply Upd.there | with_reducible apply upd_app))); (· exact rfl); (· exact rfl); (· exact rfl); (· exact rfl); intro H1 hB)
            | (apply op_at; (· exact rfl))
            | (apply dwp_cond_t; (· exact rfl); (· (first | with_reducible assumption | with_reducible rfl | decide)))
            | (apply dwp_cond_f; (· exact rfl); (· (first | with_reducible assumption | with_reducible rfl | decide)))
            | apply dwp_block
            | apply dwp_skip
            | fail)
          refine ⟨⟨_, _, _, _, _, pos + w, c1, nextP p (cn : Int), junk_facts ⟨⟨s1, s2, s3, x1, x2, x3, o1, o2, o3, hB⟩, he1', by omega, by omega, by omega, by omega, by unfold nextP; split <;> (simp only; omega), hgo⟩ rfl rfl⟩, ?_⟩
          rw [posOf_at rfl (hB.get (by (repeat (first | with_reducible exact At.here | with_reducible apply At.there | with_reducible apply at_app)))), posOf_at rfl (hB0.get (by (repeat (first | with_reducible exact At.here | with_reducible apply At.there | with_reducible apply at_app))))]
          omega
    | false =>
      have hF' : decide (cn = 65533) = false := by
        have h : ¬ (cn : Int) = 65533 := by simpa using hF
        simp; omega
      have hbad : badL (s.drop pos) = false := by unfold badL; rw [hcw]; simp only [hF', Bool.false_and]
      rw [hbad, if_neg (by simp)] at hc1
      cases he1 : (c1.e != 0) with
      | true =>
        have he1' : c1.e ≠ 0 := by simpa using he1
        rw [if_neg he1'] at hgo
        rw [← hgo] at hk1
        repeat' (first
          | dsimp only [putD, DV.cells, DH.new_next, DH.set_next, List.length_cons, List.length_nil, Nat.reduceAdd, List.set_cons_zero, List.set_cons_succ, getD_zero, getD_succ, fieldAt_zero, fieldAt_succ, thenD, blockD, retR]
          | (refine ⟨_, resOf_ttct (loadD_at rfl (Bx.get (by assumption) (by (repeat (first | with_reducible exact At.here | with_reducible apply At.there | with_reducible apply at_app)))) rfl (by (first | exact part57 _ _ _ _ | exact part49 _ _ | exact part49a _ _ _ _ _ _ _ _ _ | exact part49w _ _ _ _ _ _ _ _ _ | exact rfl))), ?_⟩)
          | refine dwp_drawr _ rfl (fun H' => Bx A H' [(bc, .rows false 9 [c1.row s1 s2 s3])] fs) (hB.sub (by (repeat (first | exact List.Sublist.refl _ | exact List.nil_sublist _ | apply List.Sublist.cons_cons | apply List.Sublist.cons | apply List.Sublist.append_left | refine List.Sublist.trans ?_ (List.sublist_append_right _ _))))) ?_
          | apply drawr_nil
          | (apply drawr_read; (· (first | exact wanted_plain rfl | (apply wanted_on; (· exact rfl); (· exact rfl); (· (first | with_reducible assumption | with_reducible rfl | decide))))); (· exact rfl); (· exact rfl); (· intro H' h; have h : Bx _ H' _ _ := h; exact opD_load rfl rfl (h.get (by (repeat (first | with_reducible exact At.here | with_reducible apply At.there | with_reducible apply at_app)))) rfl (by (first | exact part57 _ _ _ _ | exact part49 _ _ | exact part49a _ _ _ _ _ _ _ _ _ | exact part49w _ _ _ _ _ _ _ _ _ | exact rfl))))
          | (apply drawr_pure; (· (first | exact wanted_plain rfl | (apply wanted_on; (· exact rfl); (· exact rfl); (· (first | with_reducible assumption | with_reducible rfl | decide))))); (· exact rfl); (· exact rfl); (· exact rfl))
          | (apply drawr_move; (· (first | exact wanted_plain rfl | (apply wanted_on; (· exact rfl); (· exact rfl); (· (first | with_reducible assumption | with_reducible rfl | decide))))); (· exact rfl))
          | refine ⟨(hB.sub (by (repeat (first | exact List.Sublist.refl _ | exact List.nil_sublist _ | apply List.Sublist.cons_cons | apply List.Sublist.cons | apply List.Sublist.append_left | refine List.Sublist.trans ?_ (List.sublist_append_right _ _))))), ?_⟩
          | apply dwp_seq
          | apply dwp_region
          | apply ops_nil
          | (apply ops_plain; (· exact rfl))
          | (apply ops_off1; (· exact rfl); (· exact rfl); (· (first | with_reducible assumption | with_reducible rfl | decide)))
          | (apply op_call; (· exact rfl); (· exact rfl); (· exact rfl); (apply take56 (c := c); (· exact hr0); (· exact t1); (· exact t2); (· exact b3); (· exact (⟨s1, s2, s3, x1, x2, x3, o1, o2, o3, hB⟩ : Rep _ _ _ c _ _)); intro r1 H1 hR1; replace hR1 : Rep _ _ _ c1 _ _ := hc1 ▸ hR1; obtain ⟨s1, s2, s3, x1, x2, x3, o1, o2, o3, hB⟩ := hR1.ex))
          | (apply op_pick_f; (· exact rfl); (· exact rfl); (· (first | with_reducible assumption | with_reducible rfl | decide)); (· exact rfl))
          | (apply bx_next (c := cn) (w := w); (· exact rfl); (· exact rfl); (· assumption); (· (repeat (first | with_reducible exact Upd.here | with_reducible apply Upd.there | with_reducible apply upd_app))); (· exact hlt); (· exact hdec); intro H1 hB)
          | (apply bx_load0; (· exact rfl); (· exact rfl); (· assumption); (· (repeat (first | with_reducible exact At.here | with_reducible apply At.there | with_reducible apply at_app))); (· (first | exact part57 _ _ _ _ | exact part49 _ _ | exact part49a _ _ _ _ _ _ _ _ _ | exact part49w _ _ _ _ _ _ _ _ _ | exact rfl)))
          | (apply bx_store0; (· exact rfl); (· exact rfl); (· exact rfl); (· assumption); (· (first | (dsimp only [putD, DV.cells, DH.new_next, DH.set_next, List.length_cons, List.length_nil, Nat.reduceAdd, List.set_cons_zero, List.set_cons_succ, getD_zero, getD_succ, fieldAt_zero, fieldAt_succ, thenD, blockD, retR, Sv.cells]; done) | (dsimp only [putD, DV.cells, DH.new_next, DH.set_next, List.length_cons, List.length_nil, Nat.reduceAdd, List.set_cons_zero, List.set_cons_succ, getD_zero, getD_succ, fieldAt_zero, fieldAt_succ, thenD, blockD, retR, Sv.cells]; exact rfl) | exact rfl)); (· (repeat (first | with_reducible exact Upd.here | with_reducible apply Upd.there | with_reducible apply upd_app))); (· exact rfl); (· exact rfl); (· exact rfl); (· exact rfl); intro H1 hB)
          | (apply op_at; (· exact rfl))
          | (apply dwp_cond_t; (· exact rfl); (· (first | with_reducible assumption | with_reducible rfl | decide)))
          | (apply dwp_cond_f; (· exact rfl); (· (first | with_reducible assumption | with_reducible rfl | decide)))
          | apply dwp_block
          | apply dwp_skip
          | apply dwp_ret
          | fail)
        exact hk1 he1' _ (hB.sub (by (repeat (first | exact List.Sublist.refl _ | exact List.nil_sublist _ | apply List.Sublist.cons_cons | apply List.Sublist.cons | apply List.Sublist.append_left | refine List.Sublist.trans ?_ (List.sublist_append_right _ _)))))
      | false =>
        have he1' : c1.e = 0 := by simpa using he1
        rw [if_pos he1', List.drop_drop] at hgo
        repeat' (first
          | dsimp only [putD, DV.cells, DH.new_next, DH.set_next, List.length_cons, List.length_nil, Nat.reduceAdd, List.set_cons_zero, List.set_cons_succ, getD_zero, getD_succ, fieldAt_zero, fieldAt_succ, thenD, blockD, retR]
          | apply dwp_seq
          | apply dwp_region
          | apply ops_nil
          | (apply ops_plain; (· exact rfl))
          | (apply ops_off1; (· exact rfl); (· exact rfl); (· (first | with_reducible assumption | with_reducible rfl | decide)))
          | (apply op_call; (· exact rfl); (· exact rfl); (· exact rfl); (apply take56 (c := c); (· exact hr0); (· exact t1); (· exact t2); (· exact b3); (· exact (⟨s1, s2, s3, x1, x2, x3, o1, o2, o3, hB⟩ : Rep _ _ _ c _ _)); intro r1 H1 hR1; replace hR1 : Rep _ _ _ c1 _ _ := hc1 ▸ hR1; obtain ⟨s1, s2, s3, x1, x2, x3, o1, o2, o3, hB⟩ := hR1.ex))
          | (apply op_call; (· exact rfl); (· exact rfl); (· exact rfl); (apply next57; (· exact b4); (· exact b5); (· assumption); intro H1 hB))
          | (apply op_pick_f; (· exact rfl); (· exact rfl); (· (first | with_reducible assumption | with_reducible rfl | decide)); (· exact rfl))
          | (apply bx_next (c := cn) (w := w); (· exact rfl); (· exact rfl); (· assumption); (· (repeat (first | with_reducible exact Upd.here | with_reducible apply Upd.there | with_reducible apply upd_app))); (· exact hlt); (· exact hdec); intro H1 hB)
          | (apply bx_load0; (· exact rfl); (· exact rfl); (· assumption); (· (repeat (first | with_reducible exact At.here | with_reducible apply At.there | with_reducible apply at_app))); (· (first | exact part57 _ _ _ _ | exact part49 _ _ | exact part49a _ _ _ _ _ _ _ _ _ | exact part49w _ _ _ _ _ _ _ _ _ | exact rfl)))
          | (apply bx_store0; (· exact rfl); (· exact rfl); (· exact rfl); (· assumption); (· (first | (dsimp only [putD, DV.cells, DH.new_next, DH.set_next, List.length_cons, List.length_nil, Nat.reduceAdd, List.set_cons_zero, List.set_cons_succ, getD_zero, getD_succ, fieldAt_zero, fieldAt_succ, thenD, blockD, retR, Sv.cells]; done) | (dsimp only [putD, DV.cells, DH.new_next, DH.set_next, List.length_cons, List.length_nil, Nat.reduceAdd, List.set_cons_zero, List.set_cons_succ, getD_zero, getD_succ, fieldAt_zero, fieldAt_succ, thenD, blockD, retR, Sv.cells]; exact rfl) | exact rfl)); (· (repeat (first | with_reducible exact Upd.here | with_reducible apply Upd.there | with_reducible apply upd_app))); (· exact rfl); (· exact rfl); (· exact rfl); (· exact rfl); intro H1 hB)
          | (apply op_at; (· exact rfl))
          | (apply dwp_cond_t; (· exact rfl); (· (first | with_reducible assumption | with_reducible rfl | decide)))
          | (apply dwp_cond_f; (· exact rfl); (· (first | with_reducible assumption | with_reducible rfl | decide)))
          | apply dwp_block
          | apply dwp_skip
          | fail)
        refine ⟨⟨_, _, _, _, _, pos + w, c1, nextP p (cn : Int), junk_facts ⟨⟨s1, s2, s3, x1, x2, x3, o1, o2, o3, hB⟩, he1', by omega, by omega, by omega, by omega, by unfold nextP; split <;> (simp only; omega), hgo⟩ rfl rfl⟩, ?_⟩
        rw [posOf_at rfl (hB.get (by (repeat (first | with_reducible exact At.here | with_reducible apply At.there | with_reducible apply at_app)))), posOf_at rfl (hB0.get (by (repeat (first | with_reducible exact At.here | with_reducible apply At.there | with_reducible apply at_app))))]
        omega
  · have hnil : s.drop pos = [] := List.drop_eq_nil_of_le (by omega)
    rw [hnil, runes_nil] at hgo
    unfold goR at hgo
    have b1 : c.toks.length + 1 ≤ 1000000 := by omega
    have b2 : c.places.length + 1 ≤ 1000000 := by omega
    have b3 : c.piece.length ≤ 65536 := by omega
    obtain ⟨s1, s2, s3, x1, x2, x3, o1, o2, o3, hB⟩ := hR.ex
    cases he1 : ((cutF s).e != 0) with
    | true =>
      have he1' : (cutF s).e ≠ 0 := by simpa using he1
      repeat' (first
        | dsimp only [putD, DV.cells, DH.new_next, DH.set_next, List.length_cons, List.length_nil, Nat.reduceAdd, List.set_cons_zero, List.set_cons_succ, getD_zero, getD_succ, fieldAt_zero, fieldAt_succ, thenD, blockD, retR]
        | (refine ⟨_, resOf_ttct (loadD_at rfl (Bx.get (by assumption) (by (repeat (first | with_reducible exact At.here | with_reducible apply At.there | with_reducible apply at_app)))) rfl (by (first | exact part57 _ _ _ _ | exact part49 _ _ | exact part49a _ _ _ _ _ _ _ _ _ | exact part49w _ _ _ _ _ _ _ _ _ | exact rfl))), ?_⟩)
        | refine dwp_drawr _ rfl (fun H' => Bx A H' [(bc, .rows false 9 [(cutF s).row s1 s2 s3])] fs) (hB.sub (by (repeat (first | exact List.Sublist.refl _ | exact List.nil_sublist _ | apply List.Sublist.cons_cons | apply List.Sublist.cons | apply List.Sublist.append_left | refine List.Sublist.trans ?_ (List.sublist_append_right _ _))))) ?_
        | apply drawr_nil
        | (apply drawr_read; (· (first | exact wanted_plain rfl | (apply wanted_on; (· exact rfl); (· exact rfl); (· (first | with_reducible assumption | with_reducible rfl | decide))))); (· exact rfl); (· exact rfl); (· intro H' h; have h : Bx _ H' _ _ := h; exact opD_load rfl rfl (h.get (by (repeat (first | with_reducible exact At.here | with_reducible apply At.there | with_reducible apply at_app)))) rfl (by (first | exact part57 _ _ _ _ | exact part49 _ _ | exact part49a _ _ _ _ _ _ _ _ _ | exact part49w _ _ _ _ _ _ _ _ _ | exact rfl))))
        | (apply drawr_pure; (· (first | exact wanted_plain rfl | (apply wanted_on; (· exact rfl); (· exact rfl); (· (first | with_reducible assumption | with_reducible rfl | decide))))); (· exact rfl); (· exact rfl); (· exact rfl))
        | (apply drawr_move; (· (first | exact wanted_plain rfl | (apply wanted_on; (· exact rfl); (· exact rfl); (· (first | with_reducible assumption | with_reducible rfl | decide))))); (· exact rfl))
        | refine ⟨(hB.sub (by (repeat (first | exact List.Sublist.refl _ | exact List.nil_sublist _ | apply List.Sublist.cons_cons | apply List.Sublist.cons | apply List.Sublist.append_left | refine List.Sublist.trans ?_ (List.sublist_append_right _ _))))), ?_⟩
        | apply dwp_seq
        | apply dwp_region
        | apply ops_nil
        | (apply ops_plain; (· exact rfl))
        | (apply op_call; (· exact rfl); (· exact rfl); (· exact rfl); (apply end54 (c := c); (· exact b1); (· exact b2); (· exact b3); (· exact (⟨s1, s2, s3, x1, x2, x3, o1, o2, o3, hB⟩ : Rep _ _ _ c _ _)); intro r1 H1 hR1; replace hR1 : Rep _ _ _ (cutF s) _ _ := hgo ▸ hR1; obtain ⟨s1, s2, s3, x1, x2, x3, o1, o2, o3, hB⟩ := hR1.ex))
        | (apply bx_next_end; (· exact rfl); (· exact rfl); (· assumption); (· (repeat (first | with_reducible exact At.here | with_reducible apply At.there | with_reducible apply at_app))); (· exact hlt))
        | (apply bx_load0; (· exact rfl); (· exact rfl); (· assumption); (· (repeat (first | with_reducible exact At.here | with_reducible apply At.there | with_reducible apply at_app))); (· (first | exact part57 _ _ _ _ | exact part49 _ _ | exact part49a _ _ _ _ _ _ _ _ _ | exact part49w _ _ _ _ _ _ _ _ _ | exact rfl)))
        | (apply bx_store0; (· exact rfl); (· exact rfl); (· exact rfl); (· assumption); (· (first | (dsimp only [putD, DV.cells, DH.new_next, DH.set_next, List.length_cons, List.length_nil, Nat.reduceAdd, List.set_cons_zero, List.set_cons_succ, getD_zero, getD_succ, fieldAt_zero, fieldAt_succ, thenD, blockD, retR, Sv.cells]; done) | (dsimp only [putD, DV.cells, DH.new_next, DH.set_next, List.length_cons, List.length_nil, Nat.reduceAdd, List.set_cons_zero, List.set_cons_succ, getD_zero, getD_succ, fieldAt_zero, fieldAt_succ, thenD, blockD, retR, Sv.cells]; exact rfl) | exact rfl)); (· (repeat (first | with_reducible exact Upd.here | with_reducible apply Upd.there | with_reducible apply upd_app))); (· exact rfl); (· exact rfl); (· exact rfl); (· exact rfl); intro H1 hB)
        | (apply op_at; (· exact rfl))
        | (apply dwp_cond_t; (· exact rfl); (· (first | with_reducible assumption | with_reducible rfl | decide)))
        | (apply dwp_cond_f; (· exact rfl); (· (first | with_reducible assumption | with_reducible rfl | decide)))
        | apply dwp_ret
        | apply dwp_exit
        | fail)
      exact hk1 he1' _ (hB.sub (by (repeat (first | exact List.Sublist.refl _ | exact List.nil_sublist _ | apply List.Sublist.cons_cons | apply List.Sublist.cons | apply List.Sublist.append_left | refine List.Sublist.trans ?_ (List.sublist_append_right _ _)))))
    | false =>
      have he1' : (cutF s).e = 0 := by simpa using he1
      repeat' (first
        | dsimp only [putD, DV.cells, DH.new_next, DH.set_next, List.length_cons, List.length_nil, Nat.reduceAdd, List.set_cons_zero, List.set_cons_succ, getD_zero, getD_succ, fieldAt_zero, fieldAt_succ, thenD, blockD, retR]
        | (refine ⟨_, resOf_ttct (loadD_at rfl (Bx.get (by assumption) (by (repeat (first | with_reducible exact At.here | with_reducible apply At.there | with_reducible apply at_app)))) rfl (by (first | exact part57 _ _ _ _ | exact part49 _ _ | exact part49a _ _ _ _ _ _ _ _ _ | exact part49w _ _ _ _ _ _ _ _ _ | exact rfl))), ?_⟩)
        | refine dwp_drawr _ rfl (fun H' => Bx A H' [(bc, .rows false 9 [(cutF s).row s1 s2 s3])] fs) (hB.sub (by (repeat (first | exact List.Sublist.refl _ | exact List.nil_sublist _ | apply List.Sublist.cons_cons | apply List.Sublist.cons | apply List.Sublist.append_left | refine List.Sublist.trans ?_ (List.sublist_append_right _ _))))) ?_
        | apply drawr_nil
        | (apply drawr_read; (· (first | exact wanted_plain rfl | (apply wanted_on; (· exact rfl); (· exact rfl); (· (first | with_reducible assumption | with_reducible rfl | decide))))); (· exact rfl); (· exact rfl); (· intro H' h; have h : Bx _ H' _ _ := h; exact opD_load rfl rfl (h.get (by (repeat (first | with_reducible exact At.here | with_reducible apply At.there | with_reducible apply at_app)))) rfl (by (first | exact part57 _ _ _ _ | exact part49 _ _ | exact part49a _ _ _ _ _ _ _ _ _ | exact part49w _ _ _ _ _ _ _ _ _ | exact rfl))))
        | (apply drawr_pure; (· (first | exact wanted_plain rfl | (apply wanted_on; (· exact rfl); (· exact rfl); (· (first | with_reducible assumption | with_reducible rfl | decide))))); (· exact rfl); (· exact rfl); (· exact rfl))
        | (apply drawr_move; (· (first | exact wanted_plain rfl | (apply wanted_on; (· exact rfl); (· exact rfl); (· (first | with_reducible assumption | with_reducible rfl | decide))))); (· exact rfl))
        | refine ⟨(hB.sub (by (repeat (first | exact List.Sublist.refl _ | exact List.nil_sublist _ | apply List.Sublist.cons_cons | apply List.Sublist.cons | apply List.Sublist.append_left | refine List.Sublist.trans ?_ (List.sublist_append_right _ _))))), ?_⟩
        | apply dwp_seq
        | apply dwp_region
        | apply ops_nil
        | (apply ops_plain; (· exact rfl))
        | (apply op_call; (· exact rfl); (· exact rfl); (· exact rfl); (apply end54 (c := c); (· exact b1); (· exact b2); (· exact b3); (· exact (⟨s1, s2, s3, x1, x2, x3, o1, o2, o3, hB⟩ : Rep _ _ _ c _ _)); intro r1 H1 hR1; replace hR1 : Rep _ _ _ (cutF s) _ _ := hgo ▸ hR1; obtain ⟨s1, s2, s3, x1, x2, x3, o1, o2, o3, hB⟩ := hR1.ex))
        | (apply bx_next_end; (· exact rfl); (· exact rfl); (· assumption); (· (repeat (first | with_reducible exact At.here | with_reducible apply At.there | with_reducible apply at_app))); (· exact hlt))
        | (apply bx_load0; (· exact rfl); (· exact rfl); (· assumption); (· (repeat (first | with_reducible exact At.here | with_reducible apply At.there | with_reducible apply at_app))); (· (first | exact part57 _ _ _ _ | exact part49 _ _ | exact part49a _ _ _ _ _ _ _ _ _ | exact part49w _ _ _ _ _ _ _ _ _ | exact rfl)))
        | (apply bx_store0; (· exact rfl); (· exact rfl); (· exact rfl); (· assumption); (· (first | (dsimp only [putD, DV.cells, DH.new_next, DH.set_next, List.length_cons, List.length_nil, Nat.reduceAdd, List.set_cons_zero, List.set_cons_succ, getD_zero, getD_succ, fieldAt_zero, fieldAt_succ, thenD, blockD, retR, Sv.cells]; done) | (dsimp only [putD, DV.cells, DH.new_next, DH.set_next, List.length_cons, List.length_nil, Nat.reduceAdd, List.set_cons_zero, List.set_cons_succ, getD_zero, getD_succ, fieldAt_zero, fieldAt_succ, thenD, blockD, retR, Sv.cells]; exact rfl) | exact rfl)); (· (repeat (first | with_reducible exact Upd.here | with_reducible apply Upd.there | with_reducible apply upd_app))); (· exact rfl); (· exact rfl); (· exact rfl); (· exact rfl); intro H1 hB)
        | (apply op_at; (· exact rfl))
        | (apply dwp_cond_f; (· exact rfl); (· (first | with_reducible assumption | with_reducible rfl | decide)))
        | apply dwp_skip
        | apply dwp_ret
        | apply dwp_exit
        | fail)
      exact hk2 he1' s1 s2 x1 x2 _ o1 o2 (hB.sub (by (repeat (first | exact List.Sublist.refl _ | exact List.nil_sublist _ | apply List.Sublist.cons_cons | apply List.Sublist.cons | apply List.Sublist.append_left | refine List.Sublist.trans ?_ (List.sublist_append_right _ _)))))
end
end Go.Det.C

/- Remarks: what is cut is the same. -/
namespace Go.Det.C
open Go Go.Det Go.Proofs
set_option maxRecDepth 4000
set_option linter.unusedVariables false
set_option linter.unusedSimpArgs false
/-- Two cutters, alike but for places. -/
structure Alike (c d : Cu) : Prop where
  toks : c.toks = d.toks
  piece : c.piece = d.piece
  remark : c.remark = d.remark
  e : c.e = d.e
theorem Alike.refl (c : Cu) : Alike c c := ⟨rfl, rfl, rfl, rfl⟩
theorem Alike.fail {c d : Cu} (h : Alike c d) (p p' : Int × Int) (e : Int) : Alike (c.fail p e) (d.fail p' e) := by
  unfold Cu.fail
  rw [h.e]
  split
  · exact ⟨h.toks, h.piece, h.remark, rfl⟩
  · exact h
theorem Alike.add {c d : Cu} (h : Alike c d) (t : Tok) (p p' : Int × Int) : Alike (c.add t p) (d.add t p') := by
  unfold Cu.add
  exact ⟨by simp [h.toks], h.piece, h.remark, h.e⟩
theorem Alike.cut {c d : Cu} (h : Alike c d) : Alike c.cut d.cut := ⟨h.toks, rfl, h.remark, h.e⟩
theorem Alike.fin {c d : Cu} (h : Alike c d) : Alike c.fin d.fin := by
  unfold Cu.fin
  rw [h.piece]
  split
  · exact h.cut
  · split
    · split
      · exact h.cut.add _ _ _
      · exact (h.cut.fail _ _ _).add _ _ _
    · split
      · exact h.cut.fail _ _ _
      · exact h.cut.add _ _ _
theorem Alike.take {c d : Cu} (h : Alike c d) (p p' : Int × Int) (r : Int) : Alike (c.take p r) (d.take p' r) := by
  have hr : Alike { c with remark := false } { d with remark := false } := ⟨h.toks, h.piece, rfl, h.e⟩
  have hf := hr.fin
  have h0 := h
  obtain ⟨toks, places, piece, a, rem, w, e⟩ := c
  obtain ⟨toks', places', piece', a', rem', w', e'⟩ := d
  obtain ⟨q1, q2, q3, q4⟩ := h0
  simp only at q1 q2 q3 q4
  subst q1 q2 q3 q4
  unfold Cu.take
  simp only at hf ⊢
  split
  · exact h
  · split
    · exact ⟨h.toks, rfl, rfl, h.e⟩
    · split
      · exact hf
      · split
        · exact ⟨hf.toks, hf.piece, rfl, hf.e⟩
        · split
          · exact hf.add _ _ _
          · split
            · exact ⟨hf.toks, by simp [hf.piece], hf.remark, hf.e⟩
            · exact hf.fail _ _ _
theorem Alike.step {c d : Cu} (h : Alike c d) (p p' : Int × Int) (x : Int × Bool) : Alike (stepR c p x) (stepR d p' x) := by
  unfold stepR
  split
  · exact (h.fin.fail _ _ _).take _ _ _
  · exact h.take _ _ _
theorem goR_cons (x : Int × Bool) (r : List (Int × Bool)) (c : Cu) (p : Int × Int) : goR (x :: r) c p = if (stepR c p x).e = 0 then goR r (stepR c p x) (nextP p x.1) else stepR c p x := rfl
theorem Alike.go {r : List (Int × Bool)} : ∀ {c d : Cu} (h : Alike c d) (p p' : Int × Int), Alike (goR r c p) (goR r d p') := by
  induction r with
  | nil => intro c d h p p'; exact h.fin
  | cons x r ih =>
    intro c d h p p'
    have hs := h.step p p' x
    rw [goR_cons, goR_cons, hs.e]
    split
    · exact ih hs _ _
    · exact hs
/-- Where runes lead to, up to the first fault. -/
noncomputable def foldR : List (Int × Bool) → Cu → Int × Int → Cu × (Int × Int)
  | [], c, p => (c, p)
  | x :: r, c, p => if (stepR c p x).e = 0 then foldR r (stepR c p x) (nextP p x.1) else (stepR c p x, p)
theorem foldR_cons (x : Int × Bool) (r : List (Int × Bool)) (c : Cu) (p : Int × Int) : foldR (x :: r) c p = if (stepR c p x).e = 0 then foldR r (stepR c p x) (nextP p x.1) else (stepR c p x, p) := rfl
theorem goR_app (b : List (Int × Bool)) : ∀ (a : List (Int × Bool)) (c : Cu) (p : Int × Int), c.e = 0 → goR (a ++ b) c p = if (foldR a c p).1.e = 0 then goR b (foldR a c p).1 (foldR a c p).2 else (foldR a c p).1 := by
  intro a
  induction a with
  | nil => intro c p h; simp only [List.nil_append, foldR, h, if_true]
  | cons x a ih =>
    intro c p h
    rw [List.cons_append]
    rw [goR_cons, foldR_cons]
    by_cases hs : (stepR c p x).e = 0
    · rw [if_pos hs, if_pos hs]; exact ih _ _ hs
    · simp only [hs, if_false]
/-- In a remark, what is no line's end is passed over. -/
theorem goR_remark : ∀ (r : List (Int × Bool)) (c : Cu) (p : Int × Int), (∀ x ∈ r, x.2 = false ∧ x.1 ≠ 10) → c.remark = true → c.e = 0 → ∃ p', goR r c p = goR [] c p' := by
  intro r
  induction r with
  | nil => intro c p _ _ _; exact ⟨p, rfl⟩
  | cons x r ih =>
    intro c p h hc he
    obtain ⟨h1, h2⟩ := h x List.mem_cons_self
    have hs : stepR c p x = c := by
      unfold stepR Cu.take
      rw [h1]
      simp only [Bool.false_eq_true, if_false]
      rw [if_pos ⟨hc, h2⟩]
    obtain ⟨p', hp⟩ := ih c (nextP p x.1) (fun y hy => h y (List.mem_cons_of_mem _ hy)) hc he
    refine ⟨p', ?_⟩
    rw [← hp]
    conv => lhs; rw [goR_cons]
    rw [hs, if_pos he]
theorem step_blank {c : Cu} (p : Int × Int) {r : Int} (hr : r = 32 ∨ r = 9 ∨ r = 10) (h1 : c.piece = []) (h2 : c.remark = false) : stepR c p (r, false) = c := by
  obtain ⟨toks, places, piece, a, rem, w, e⟩ := c
  simp only at h1 h2
  subst h1 h2
  unfold stepR Cu.take
  have hl : ¬ (isLet r = true ∨ isDgt r = true) := by
    rcases hr with rfl | rfl | rfl <;> decide
  simp only [Bool.false_eq_true, false_and, if_false]
  rw [if_neg hl, if_pos hr]
  rfl
def Cu.rem (c : Cu) : Cu := { c with remark := true }
theorem step_hash {c : Cu} (p : Int × Int) (h1 : c.piece = []) (h2 : c.remark = false) : stepR c p (35, false) = c.rem := by
  obtain ⟨toks, places, piece, a, rem, w, e⟩ := c
  simp only at h1 h2
  subst h1 h2
  unfold stepR Cu.take
  have hl : ¬ (isLet 35 = true ∨ isDgt 35 = true) := by decide
  simp only [Bool.false_eq_true, false_and, if_false]
  rw [if_neg hl, if_neg (by decide), if_pos trivial]
  rfl
theorem goR_blanks (b : List (Int × Bool)) : ∀ (l : List UInt8) (p : Int × Int), (∀ x ∈ l, x = 32 ∨ x = 9 ∨ x = 10) → ∃ p', goR (l.map (fun x => ((x.toNat : Int), false)) ++ b) cu0 p = goR b cu0 p' := by
  intro l
  induction l with
  | nil => intro p _; exact ⟨p, rfl⟩
  | cons x l ih =>
    intro p h
    have hx := h x List.mem_cons_self
    have hs : stepR cu0 p ((x.toNat : Int), false) = cu0 := by
      rcases hx with rfl | rfl | rfl
      · exact step_blank p (.inl rfl) rfl rfl
      · exact step_blank p (.inr (.inl rfl)) rfl rfl
      · exact step_blank p (.inr (.inr rfl)) rfl rfl
    obtain ⟨p', hp⟩ := ih (nextP p (x.toNat : Int)) (fun y hy => h y (List.mem_cons_of_mem _ hy))
    refine ⟨p', ?_⟩
    rw [← hp, List.map_cons, List.cons_append]
    conv => lhs; rw [goR_cons]
    rw [hs]
    rfl
theorem runes_ascii_app (m : List UInt8) : ∀ (l : List UInt8), (∀ x ∈ l, x.toNat < 128) → runes (l ++ m) = l.map (fun x => ((x.toNat : Int), false)) ++ runes m := by
  intro l
  induction l with
  | nil => intro _; rfl
  | cons x l ih =>
    intro h
    rw [List.cons_append, runes_ascii (h x List.mem_cons_self), ih (fun y hy => h y (List.mem_cons_of_mem _ hy))]
    rfl
/-- A remark's text. -/
def Plain (c : List UInt8) : Prop := ∀ x ∈ runes c, x.2 = false ∧ x.1 ≠ 10
theorem remarks (pad s c : List UInt8) (hp : ∀ x ∈ pad, x = 32 ∨ x = 9 ∨ x = 10) (hc : Plain c) : (cutF (pad ++ s ++ [10, 35] ++ c)).e = (cutF s).e ∧ ((cutF s).e = 0 → (cutF (pad ++ s ++ [10, 35] ++ c)).toks = (cutF s).toks) := by
  have hpa : ∀ x ∈ pad, x.toNat < 128 := fun x hx => by rcases hp x hx with rfl | rfl | rfl <;> decide
  have e1 : pad ++ s ++ [10, 35] ++ c = pad ++ (s ++ 10 :: (35 :: c)) := by simp
  have e2 : runes (10 :: 35 :: c) = (10, false) :: (35, false) :: runes c := by
    rw [runes_ascii (by decide), runes_ascii (by decide)]; rfl
  unfold cutF
  rw [e1, runes_ascii_app _ _ hpa, runes_app _ _ _ (Nat.le_refl _), e2]
  obtain ⟨p', h1⟩ := goR_blanks (runes s ++ (10, false) :: (35, false) :: runes c) pad (1, 1) hp
  rw [h1, goR_app _ _ _ _ rfl]
  have hs : goR (runes s ++ []) cu0 (1, 1) = _ := goR_app [] (runes s) cu0 (1, 1) rfl
  rw [List.append_nil] at hs
  have hal : Alike (foldR (runes s) cu0 p').1 (foldR (runes s) cu0 (1, 1)).1 := by
    have : ∀ (r : List (Int × Bool)) (c d : Cu) (p q : Int × Int), Alike c d → Alike (foldR r c p).1 (foldR r d q).1 := by
      intro r
      induction r with
      | nil => intro c d p q h; exact h
      | cons x r ih =>
        intro c d p q h
        have hst := h.step p q x
        unfold foldR
        rw [hst.e]
        split
        · exact ih _ _ _ _ hst
        · exact hst
    exact this _ _ _ _ _ (Alike.refl _)
  rw [hs]
  generalize (foldR (runes s) cu0 p') = f at hal
  generalize (foldR (runes s) cu0 (1, 1)) = g at hal
  obtain ⟨f, fp⟩ := f
  obtain ⟨g, gp⟩ := g
  simp only at hal ⊢
  by_cases he : g.e = 0
  · have he' : f.e = 0 := by rw [hal.e]; exact he
    rw [if_pos he, if_pos he']
    -- the line's end
    have hst : stepR f fp (10, false) = Cu.fin { f with remark := false } := by
      unfold stepR Cu.take
      simp only [Bool.false_eq_true, if_false]
      rw [if_neg (by simp), if_neg (by decide), if_pos (by simp)]
    have hfr : ∀ b : Bool, (Cu.fin { f with remark := b }).e = f.fin.e ∧ (Cu.fin { f with remark := b }).toks = f.fin.toks := by
      intro b
      unfold Cu.fin Cu.cut Cu.fail Cu.add
      constructor
      · (repeat' split) <;> simp_all
      · (repeat' split) <;> simp_all
    have hfin := hal.fin
    obtain ⟨k1, k2, k3, k4⟩ := fin_len { f with remark := false }
    rw [goR_cons, hst]
    split
    · rename_i hz
      rw [goR_cons, step_hash _ k3 k4]
      rw [if_pos (show (Cu.fin { f with remark := false }).rem.e = 0 from hz)]
      obtain ⟨p2, hr⟩ := goR_remark (runes c) (Cu.fin { f with remark := false }).rem (nextP (nextP fp 10) 35) hc rfl hz
      rw [hr]
      have hlast : ∀ d : Cu, d.piece = [] → ∀ p, goR [] d p = d.cut := by
        intro d hd p
        show d.fin = d.cut
        unfold Cu.fin
        rw [if_pos hd]
      rw [hlast (Cu.fin { f with remark := false }).rem k3]
      have h0 := hfr false
      constructor
      · show (Cu.fin { f with remark := false }).e = g.fin.e
        rw [h0.1, hfin.e]
      · intro _
        show (Cu.fin { f with remark := false }).toks = g.fin.toks
        rw [h0.2, hfin.toks]
    · rename_i hz
      have h0 := hfr false
      constructor
      · show (Cu.fin { f with remark := false }).e = g.fin.e
        rw [h0.1, hfin.e]
      · intro hg
        exfalso
        apply hz
        rw [h0.1, hfin.e]
        exact hg
  · have he' : ¬ f.e = 0 := by rw [hal.e]; exact he
    rw [if_neg he, if_neg he']
    exact ⟨hal.e, fun _ => hal.toks⟩
theorem remark_alone (c : List UInt8) (hc : Plain c) : (cutF ([35, 32] ++ c)).e = 0 ∧ (cutF ([35, 32] ++ c)).toks = [] := by
  have e2 : runes ([35, 32] ++ c) = (35, false) :: (32, false) :: runes c := by
    show runes (35 :: 32 :: c) = _
    rw [runes_ascii (by decide), runes_ascii (by decide)]; rfl
  unfold cutF
  rw [e2]
  rw [goR_cons, step_hash _ rfl rfl]
  rw [if_pos (by rfl)]
  obtain ⟨p2, hr⟩ := goR_remark ((32, false) :: runes c) cu0.rem (nextP (1, 1) 35) (fun x hx => by
    rcases List.mem_cons.mp hx with rfl | hx
    · exact ⟨rfl, by decide⟩
    · exact hc x hx) rfl rfl
  rw [hr]
  exact ⟨rfl, rfl⟩
end Go.Det.C

/- Times: what a product is, where it is no more than a time may be. -/
namespace Go.Det.C
open Go Go.Det Go.Proofs
set_option maxRecDepth 4000
set_option maxHeartbeats 4000000
set_option linter.unusedVariables false
set_option linter.unusedSimpArgs false
theorem wrapU {n : Int} (h : 0 ≤ n ∧ n < 18446744073709551616) : IntKind.u64.wrap n = n := by
  unfold IntKind.wrap
  simp only [IntKind.signed, IntKind.bits]
  simp
  omega
theorem mask32 {n : Int} (h : 0 ≤ n ∧ n < 18446744073709551616) : IntKind.u64.wrap ((BitVec.ofInt IntKind.u64.bits n &&& BitVec.ofInt IntKind.u64.bits 4294967295).toNat : Int) = n % 4294967296 := by
  obtain ⟨m, rfl⟩ := Int.eq_ofNat_of_zero_le h.1
  have hm : m < 18446744073709551616 := by omega
  have e : (BitVec.ofInt IntKind.u64.bits (m : Int) &&& BitVec.ofInt IntKind.u64.bits 4294967295).toNat = m % 4294967296 := by
    show (BitVec.ofInt 64 (m : Int) &&& BitVec.ofInt 64 4294967295).toNat = _
    rw [BitVec.toNat_and, BitVec.toNat_ofInt]
    have h1 : (((m : Int) % ((2 ^ 64 : Nat) : Int))).toNat = m := by omega
    rw [h1]
    have h2 : (BitVec.ofInt 64 4294967295).toNat = 2 ^ 32 - 1 := by decide
    rw [h2, Nat.and_two_pow_sub_one_eq_mod]
  rw [e, wrapU (by omega)]
  omega
theorem shr32 {n : Int} (h : 0 ≤ n) : n.fdiv (2 ^ (min ((32 : Int).toNat) IntKind.u64.bits)) = n / 4294967296 := by
  have e : ((2 : Int) ^ (min ((32 : Int).toNat) IntKind.u64.bits)) = 4294967296 := by decide
  rw [e, Int.fdiv_eq_ediv_of_nonneg _ (by decide)]
theorem mulx122 {x y : Int} (hx : 0 ≤ x ∧ x < 18446744073709551616) (hy : 0 ≤ y ∧ y < 18446744073709551616) (hxy : x * y < 18446744073709551616) (H : DH) : CallWp Tryd.prog X1 122 [.int .u64 x, .int .u64 y] H (fun r H' => r = .tuple [.int .u64 0, .int .u64 (x * y)] ∧ H' = H) := by
  obtain ⟨x0, hx0⟩ : ∃ z, x % 4294967296 = z := ⟨_, rfl⟩
  obtain ⟨x1, hx1⟩ : ∃ z, x / 4294967296 = z := ⟨_, rfl⟩
  obtain ⟨y0, hy0⟩ : ∃ z, y % 4294967296 = z := ⟨_, rfl⟩
  obtain ⟨y1, hy1⟩ : ∃ z, y / 4294967296 = z := ⟨_, rfl⟩
  have ex : x = 4294967296 * x1 + x0 := by omega
  have ey : y = 4294967296 * y1 + y0 := by omega
  have key : x * y = 18446744073709551616 * (x1 * y1) + 4294967296 * (x1 * y0 + x0 * y1) + x0 * y0 := by grind
  have n0 : 0 ≤ x * y := Int.mul_nonneg hx.1 hy.1
  have n1 : 0 ≤ x1 * y1 := Int.mul_nonneg (by omega) (by omega)
  have n2 : 0 ≤ x1 * y0 := Int.mul_nonneg (by omega) (by omega)
  have n3 : 0 ≤ x0 * y1 := Int.mul_nonneg (by omega) (by omega)
  have n4 : 0 ≤ x0 * y0 := Int.mul_nonneg (by omega) (by omega)
  have a1 := (mask32 hx).trans hx0
  have a2 := (shr32 hx.1).trans hx1
  have a3 := (mask32 hy).trans hy0
  have a4 := (shr32 hy.1).trans hy1
  have hw50 : IntKind.u64.wrap (x * y) = x * y := wrapU (by omega)
  obtain ⟨p, hp⟩ : ∃ p, x * y = p := ⟨_, rfl⟩
  rw [hp] at key n0 hxy hw50 ⊢
  obtain ⟨p11, hp11⟩ : ∃ p, x1 * y1 = p := ⟨_, rfl⟩
  obtain ⟨p10, hp10⟩ : ∃ p, x1 * y0 = p := ⟨_, rfl⟩
  obtain ⟨p01, hp01⟩ : ∃ p, x0 * y1 = p := ⟨_, rfl⟩
  obtain ⟨p00, hp00⟩ : ∃ p, x0 * y0 = p := ⟨_, rfl⟩
  rw [hp11, hp10, hp01, hp00] at key
  rw [hp11] at n1; rw [hp10] at n2; rw [hp01] at n3; rw [hp00] at n4
  have w24 : IntKind.u64.wrap (x0 * y0) = p00 := by rw [hp00]; exact wrapU (by omega)
  have w27 : IntKind.u64.wrap (x1 * y0) = p10 := by rw [hp10]; exact wrapU (by omega)
  have w29 := shr32 n4
  obtain ⟨q, hq⟩ : ∃ q, p00 / 4294967296 = q := ⟨_, rfl⟩
  rw [hq] at w29
  have w30 : IntKind.u64.wrap (p10 + q) = p10 + q := wrapU (by omega)
  have w32 : IntKind.u64.wrap ((BitVec.ofInt IntKind.u64.bits (p10 + q) &&& BitVec.ofInt IntKind.u64.bits 4294967295).toNat : Int) = p10 + q := by rw [mask32 (by omega)]; omega
  have w34 : (p10 + q).fdiv (2 ^ (min ((32 : Int).toNat) IntKind.u64.bits)) = 0 := by rw [shr32 (by omega)]; omega
  have w38 : IntKind.u64.wrap (x0 * y1) = p01 := by rw [hp01]; exact wrapU (by omega)
  have w39 : IntKind.u64.wrap (p10 + q + p01) = p10 + q + p01 := wrapU (by omega)
  have w42 : IntKind.u64.wrap (x1 * y1) = 0 := by rw [hp11]; rw [wrapU (by omega)]; omega
  have w46 : (p10 + q + p01).fdiv (2 ^ (min ((32 : Int).toNat) IntKind.u64.bits)) = 0 := by rw [shr32 (by omega)]; omega
  have w44 : IntKind.u64.wrap (0 + 0) = 0 := rfl
  have hw50' : IntKind.u64.wrap (x * y) = p := by rw [hp]; exact hw50
  refine enter rfl Tryd.func122 rfl Tryd.ntmps122 rfl ?_
  dsimp only [List.cons_append, List.nil_append, List.length_cons, List.length_nil, List.replicate_succ, List.replicate_zero, Nat.reduceAdd, Nat.reduceSub]
  repeat' (first
    | dsimp only [putD, DV.cells, DH.new_next, DH.set_next, List.length_cons, List.length_nil, Nat.reduceAdd, List.set_cons_zero, List.set_cons_succ, getD_zero, getD_succ, fieldAt_zero, fieldAt_succ, thenD, blockD, retR]
    | apply dwp_seq
    | apply dwp_region
    | apply ops_nil
    | (apply ops_plain; (· exact rfl))
    | (apply op_told; (· exact rfl); (· exact congrArg (DV.int _) a1))
    | (apply op_told; (· exact rfl); (· exact congrArg (DV.int _) a2))
    | (apply op_told; (· exact rfl); (· exact congrArg (DV.int _) a3))
    | (apply op_told; (· exact rfl); (· exact congrArg (DV.int _) a4))
    | (apply op_told; (· exact rfl); (· exact congrArg (DV.int _) w24))
    | (apply op_told; (· exact rfl); (· exact congrArg (DV.int _) w27))
    | (apply op_told; (· exact rfl); (· exact congrArg (DV.int _) w29))
    | (apply op_told; (· exact rfl); (· exact congrArg (DV.int _) w30))
    | (apply op_told; (· exact rfl); (· exact congrArg (DV.int _) w32))
    | (apply op_told; (· exact rfl); (· exact congrArg (DV.int _) w34))
    | (apply op_told; (· exact rfl); (· exact congrArg (DV.int _) w38))
    | (apply op_told; (· exact rfl); (· exact congrArg (DV.int _) w39))
    | (apply op_told; (· exact rfl); (· exact congrArg (DV.int _) w42))
    | (apply op_told; (· exact rfl); (· exact congrArg (DV.int _) w44))
    | (apply op_told; (· exact rfl); (· exact congrArg (DV.int _) w46))
    | (apply op_told; (· exact rfl); (· exact congrArg (DV.int _) hw50'))
    | (apply op_at; (· exact rfl))
    | apply dwp_ret
    | (refine ⟨_, rfl, ?_⟩)
    | fail)
  exact ⟨rfl, rfl⟩
theorem div123x {lo : Int} (h : 0 ≤ lo ∧ lo < 18446744073709551616) (H : DH) : CallWp Tryd.prog X1 123 [.int .u64 0, .int .u64 lo, .int .u64 1] H (fun r H' => r = .tuple [.int .u64 lo, .int .u64 0] ∧ H' = H) := by
  refine enter rfl Tryd.func123 rfl Tryd.ntmps123 rfl ?_
  dsimp only [List.cons_append, List.nil_append, List.length_cons, List.length_nil, List.replicate_succ, List.replicate_zero, Nat.reduceAdd, Nat.reduceSub]
  repeat' (first
    | dsimp only [putD, DV.cells, DH.new_next, DH.set_next, List.length_cons, List.length_nil, Nat.reduceAdd, List.set_cons_zero, List.set_cons_succ, getD_zero, getD_succ, fieldAt_zero, fieldAt_succ, thenD, blockD, retR]
    | apply dwp_seq
    | apply dwp_region
    | apply ops_nil
    | (apply ops_plain; (· exact rfl))
    | (apply op_at; (· exact rfl))
    | refine dwp_drawc _ rfl ?_
    | apply drawc_nil
    | (apply drawc_pure; (· (first | exact wanted_plain rfl | (apply wanted_on; (· exact rfl); (· exact rfl); (· (first | with_reducible assumption | with_reducible rfl | decide))))); (· exact rfl); (· exact rfl); (· exact rfl))
    | (apply dwp_cond_t; (· exact rfl); (· (first | with_reducible assumption | with_reducible rfl | decide)))
    | (apply dwp_cond_f; (· exact rfl); (· (first | with_reducible assumption | with_reducible rfl | decide)))
    | apply dwp_skip
    | apply dwp_ret
    | (refine ⟨_, rfl, ?_⟩)
    | fail)
  have e1 : IntKind.u64.wrap (lo.tdiv 1) = lo := by rw [Int.tdiv_one]; exact wrapU h
  have e2 : lo.tmod 1 = 0 := Int.tmod_one lo
  refine ⟨?_, rfl⟩
  first | (rw [e1, e2]; rfl) | (show DV.tuple [DV.int .u64 (IntKind.u64.wrap (lo.tdiv 1)), DV.int .u64 (lo.tmod 1)] = _; rw [e1, e2])
/-- Is it a time? -/
def Fit (n : Int) : Prop := -1152921504606846976 ≤ n ∧ n ≤ 1152921504606846976
theorem size70x {a : Int} (h : Fit a) (H : DH) : CallWp Tryd.prog X1 70 [.int .i64 a] H (fun r H' => r = .int .u64 (a.natAbs : Int) ∧ H' = H) := by
  unfold Fit at h
  cases hn : decide (a < 0) with
  | true =>
    have hn' : a < 0 := by simpa using hn
    refine enter rfl Tryd.func70 rfl Tryd.ntmps70 rfl ?_
    dsimp only [List.cons_append, List.nil_append, List.length_cons, List.length_nil, List.replicate_succ, List.replicate_zero, Nat.reduceAdd, Nat.reduceSub]
    repeat' (first
      | dsimp only [putD, DV.cells, DH.new_next, DH.set_next, List.length_cons, List.length_nil, Nat.reduceAdd, List.set_cons_zero, List.set_cons_succ, getD_zero, getD_succ, fieldAt_zero, fieldAt_succ, thenD, blockD, retR]
      | apply dwp_seq
      | apply dwp_region
      | apply ops_nil
      | (apply ops_plain; (· exact rfl))
      | (apply op_at; (· exact rfl))
      | (apply dwp_cond_t; (· exact rfl); (· (first | with_reducible assumption | with_reducible rfl | decide)))
      | apply dwp_ret
      | (refine ⟨_, rfl, ?_⟩)
      | fail)
    refine ⟨congrArg (DV.int _) ?_, rfl⟩
    have e : IntKind.u64.wrap a = 18446744073709551616 + a := by
      unfold IntKind.wrap
      simp only [IntKind.signed, IntKind.bits]
      simp
      omega
    rw [e]
    unfold IntKind.wrap
    simp only [IntKind.signed, IntKind.bits]
    simp
    omega
  | false =>
    have hn' : ¬ a < 0 := by simpa using hn
    refine enter rfl Tryd.func70 rfl Tryd.ntmps70 rfl ?_
    dsimp only [List.cons_append, List.nil_append, List.length_cons, List.length_nil, List.replicate_succ, List.replicate_zero, Nat.reduceAdd, Nat.reduceSub]
    repeat' (first
      | dsimp only [putD, DV.cells, DH.new_next, DH.set_next, List.length_cons, List.length_nil, Nat.reduceAdd, List.set_cons_zero, List.set_cons_succ, getD_zero, getD_succ, fieldAt_zero, fieldAt_succ, thenD, blockD, retR]
      | apply dwp_seq
      | apply dwp_region
      | apply ops_nil
      | (apply ops_plain; (· exact rfl))
      | (apply op_at; (· exact rfl))
      | (apply dwp_cond_f; (· exact rfl); (· (first | with_reducible assumption | with_reducible rfl | decide)))
      | apply dwp_skip
      | apply dwp_ret
      | (refine ⟨_, rfl, ?_⟩)
      | fail)
    refine ⟨congrArg (DV.int _) ?_, rfl⟩
    rw [wrapU (by omega)]
    omega
theorem far89x {a : Int} (h : Fit a) (H : DH) : CallWp Tryd.prog X1 89 [.int .i64 a] H (fun r H' => r = .bool false ∧ H' = H) := by
  have h1 : decide (a > 1152921504606846976) = false := by unfold Fit at h; simp; omega
  have h2 : decide (a < -1152921504606846976) = false := by unfold Fit at h; simp; omega
  refine enter rfl Tryd.func89 rfl Tryd.ntmps89 rfl ?_
  dsimp only [List.cons_append, List.nil_append, List.length_cons, List.length_nil, List.replicate_succ, List.replicate_zero, Nat.reduceAdd, Nat.reduceSub]
  repeat' (first
    | dsimp only [putD, DV.cells, DH.new_next, DH.set_next, List.length_cons, List.length_nil, Nat.reduceAdd, List.set_cons_zero, List.set_cons_succ, getD_zero, getD_succ, fieldAt_zero, fieldAt_succ, thenD, blockD, retR]
    | apply dwp_seq
    | apply dwp_region
    | apply ops_nil
    | (apply ops_plain; (· exact rfl))
    | (apply ops_on; (· exact rfl); (· exact rfl); (· (first | with_reducible assumption | with_reducible rfl | decide)))
    | (apply op_pick_f; (· exact rfl); (· exact rfl); (· (first | with_reducible assumption | with_reducible rfl | decide)); (· exact rfl))
    | (apply op_at; (· exact rfl))
    | apply dwp_ret
    | (refine ⟨_, rfl, ?_⟩)
    | fail)
  first | exact ⟨rfl, rfl⟩ | exact ⟨by rw [h2], rfl⟩
/-- What lies in a slice of three times, or of one. -/
inductive Times (H : DH) : DV → Prop
  | three {b : Nat} {x y z : Int} : H.obj b = some (.rows false 1 [[.int .i64 x], [.int .i64 y], [.int .i64 z]]) → Fit x → Fit y → Fit z → Times H (.sl (some (b, 0, 1)) 3 3 true)
  | one {b : Nat} {x : Int} : H.obj b = some (.rows false 1 [[.int .i64 x]]) → Fit x → Times H (.sl (some (b, 0, 1)) 1 1 true)
theorem index99x {s : DV} {H : DH} (h : Times H s) : CallWp Tryd.prog X1 99 [s, .func (.func 89) [] []] H (fun r H' => r = .int .i64 (-1) ∧ H' = H) := by
  cases h with
  | three h f1 f2 f3 =>
    refine enter rfl Tryd.func99 rfl Tryd.ntmps99 rfl ?_
    dsimp only [List.cons_append, List.nil_append, List.length_cons, List.length_nil, List.replicate_succ, List.replicate_zero, Nat.reduceAdd, Nat.reduceSub]
    repeat' (first
      | dsimp only [putD, DV.cells, DH.new_next, DH.set_next, List.length_cons, List.length_nil, Nat.reduceAdd, List.set_cons_zero, List.set_cons_succ, getD_zero, getD_succ, fieldAt_zero, fieldAt_succ, thenD, blockD, retR]
      | refine dwp_round ?_
      | apply dwp_seq
      | apply dwp_region
      | apply ops_nil
      | (apply ops_plain; (· exact rfl))
      | (apply op_call; (· exact rfl); (· exact rfl); (· exact rfl); (refine (far89x f1 _).mono ?_; rintro r H' ⟨rfl, rfl⟩))
      | (apply op_call; (· exact rfl); (· exact rfl); (· exact rfl); (refine (far89x f2 _).mono ?_; rintro r H' ⟨rfl, rfl⟩))
      | (apply op_call; (· exact rfl); (· exact rfl); (· exact rfl); (refine (far89x f3 _).mono ?_; rintro r H' ⟨rfl, rfl⟩))
      | (apply op_load_at; (· exact rfl); (· exact rfl); (· exact h); (· exact rfl); (· exact rfl))
      | (apply op_at; (· exact rfl))
      | (apply dwp_cond_t; (· exact rfl); (· (first | with_reducible assumption | with_reducible rfl | decide)))
      | (apply dwp_cond_f; (· exact rfl); (· (first | with_reducible assumption | with_reducible rfl | decide)))
      | apply dwp_block
      | apply dwp_skip
      | apply dwp_ret
      | apply dwp_exit
      | (refine ⟨_, rfl, ?_⟩)
      | fail)
    exact ⟨rfl, rfl⟩
  | one h f1 =>
    refine enter rfl Tryd.func99 rfl Tryd.ntmps99 rfl ?_
    dsimp only [List.cons_append, List.nil_append, List.length_cons, List.length_nil, List.replicate_succ, List.replicate_zero, Nat.reduceAdd, Nat.reduceSub]
    repeat' (first
      | dsimp only [putD, DV.cells, DH.new_next, DH.set_next, List.length_cons, List.length_nil, Nat.reduceAdd, List.set_cons_zero, List.set_cons_succ, getD_zero, getD_succ, fieldAt_zero, fieldAt_succ, thenD, blockD, retR]
      | refine dwp_round ?_
      | apply dwp_seq
      | apply dwp_region
      | apply ops_nil
      | (apply ops_plain; (· exact rfl))
      | (apply op_call; (· exact rfl); (· exact rfl); (· exact rfl); (refine (far89x f1 _).mono ?_; rintro r H' ⟨rfl, rfl⟩))
      | (apply op_load_at; (· exact rfl); (· exact rfl); (· exact h); (· exact rfl); (· exact rfl))
      | (apply op_at; (· exact rfl))
      | (apply dwp_cond_t; (· exact rfl); (· (first | with_reducible assumption | with_reducible rfl | decide)))
      | (apply dwp_cond_f; (· exact rfl); (· (first | with_reducible assumption | with_reducible rfl | decide)))
      | apply dwp_block
      | apply dwp_skip
      | apply dwp_ret
      | apply dwp_exit
      | (refine ⟨_, rfl, ?_⟩)
      | fail)
    exact ⟨rfl, rfl⟩
theorem has88x {s : DV} {H : DH} (h : Times H s) : CallWp Tryd.prog X1 88 [s, .func (.func 89) [] []] H (fun r H' => r = .bool false ∧ H' = H) := by
  refine enter rfl Tryd.func88 rfl Tryd.ntmps88 rfl ?_
  dsimp only [List.cons_append, List.nil_append, List.length_cons, List.length_nil, List.replicate_succ, List.replicate_zero, Nat.reduceAdd, Nat.reduceSub]
  repeat' (first
    | dsimp only [putD, DV.cells, DH.new_next, DH.set_next, List.length_cons, List.length_nil, Nat.reduceAdd, List.set_cons_zero, List.set_cons_succ, getD_zero, getD_succ, fieldAt_zero, fieldAt_succ, thenD, blockD, retR]
    | apply dwp_seq
    | apply dwp_region
    | apply ops_nil
    | (apply ops_plain; (· exact rfl))
    | (apply op_call; (· exact rfl); (· exact rfl); (· exact rfl); (refine (index99x h).mono ?_; rintro r H' ⟨rfl, rfl⟩))
    | (apply op_at; (· exact rfl))
    | apply dwp_ret
    | (refine ⟨_, rfl, ?_⟩)
    | fail)
  exact ⟨rfl, rfl⟩
theorem may69x {s : DV} {H : DH} (h : Times H s) : CallWp Tryd.prog X1 69 [s] H (fun r H' => r = .bool true ∧ H' = H) := by
  refine enter rfl Tryd.func69 rfl Tryd.ntmps69 rfl ?_
  dsimp only [List.cons_append, List.nil_append, List.length_cons, List.length_nil, List.replicate_succ, List.replicate_zero, Nat.reduceAdd, Nat.reduceSub]
  repeat' (first
    | dsimp only [putD, DV.cells, DH.new_next, DH.set_next, List.length_cons, List.length_nil, Nat.reduceAdd, List.set_cons_zero, List.set_cons_succ, getD_zero, getD_succ, fieldAt_zero, fieldAt_succ, thenD, blockD, retR]
    | apply dwp_seq
    | apply dwp_region
    | apply ops_nil
    | (apply ops_plain; (· exact rfl))
    | (apply op_call; (· exact rfl); (· exact rfl); (· exact rfl); (refine (has88x h).mono ?_; rintro r H' ⟨rfl, rfl⟩))
    | (apply op_at; (· exact rfl))
    | apply dwp_ret
    | (refine ⟨_, rfl, ?_⟩)
    | fail)
  exact ⟨rfl, rfl⟩
theorem told124x {a : Int} (h : Fit a) (H : DH) : CallWp Tryd.prog X1 124 [.int .i64 a] H (fun r H' => r = .tuple [.int .i64 a, .int .i64 0] ∧ Above H H') := by
  refine enter rfl Tryd.func124 rfl Tryd.ntmps124 rfl ?_
  dsimp only [List.cons_append, List.nil_append, List.length_cons, List.length_nil, List.replicate_succ, List.replicate_zero, Nat.reduceAdd, Nat.reduceSub]
  repeat' (first
    | dsimp only [putD, DV.cells, DH.new_next, DH.set_next, List.length_cons, List.length_nil, Nat.reduceAdd, List.set_cons_zero, List.set_cons_succ, getD_zero, getD_succ, fieldAt_zero, fieldAt_succ, thenD, blockD, retR]
    | apply dwp_seq
    | apply dwp_region
    | apply ops_nil
    | (apply ops_plain; (· exact rfl))
    | (apply op_call; (· exact rfl); (· exact rfl); (· exact rfl); (refine (may69x (.one obj_here' h)).mono ?_; rintro r H' ⟨rfl, rfl⟩))
    | (apply op_at; (· exact rfl))
    | (apply dwp_cond_f; (· exact rfl); (· (first | with_reducible assumption | with_reducible rfl | decide)))
    | apply dwp_skip
    | apply dwp_ret
    | (refine ⟨_, rfl, ?_⟩)
    | fail)
  exact ⟨rfl, (Above.refl _).new _⟩
theorem scale118x {a b : Int} (ha : Fit a) (hb0 : 0 < b) (hb : Fit b) (hab : Fit (a * b)) (H : DH) : CallWp Tryd.prog X1 118 [.int .i64 a, .int .i64 b, .int .i64 1] H (fun r H' => r = .tuple [.int .i64 (a * b), .int .i64 0, .int .i64 0] ∧ Above H H') := by
  have f1 : Fit 1 := by unfold Fit; decide
  have hp : (a.natAbs : Int) * (b.natAbs : Int) = ((a * b).natAbs : Int) := by rw [Int.natAbs_mul]; simp
  have c1 : 0 ≤ (a.natAbs : Int) ∧ (a.natAbs : Int) < 18446744073709551616 := by unfold Fit at ha; omega
  have c2 : 0 ≤ (b.natAbs : Int) ∧ (b.natAbs : Int) < 18446744073709551616 := by unfold Fit at hb; omega
  have c3 : ((a * b).natAbs : Int) ≤ 1152921504606846976 := by unfold Fit at hab; omega
  have c4 : (a.natAbs : Int) * (b.natAbs : Int) < 18446744073709551616 := by rw [hp]; omega
  have c5 : 0 ≤ (a.natAbs : Int) * (b.natAbs : Int) ∧ (a.natAbs : Int) * (b.natAbs : Int) < 18446744073709551616 := by rw [hp]; omega
  have g48 : decide ((a.natAbs : Int) * (b.natAbs : Int) > 1152921504606846976) = false := by rw [hp]; simp; omega
  have hbn : decide (b < 0) = false := by simp; omega
  have hw : IntKind.i64.wrap ((a.natAbs : Int) * (b.natAbs : Int)) = ((a * b).natAbs : Int) := by rw [hp]; exact wrapI (by omega)
  cases hn : decide (a < 0) with
  | true =>
    have hn' : a < 0 := by simpa using hn
    have h57 : (!(decide (a < 0) == decide (b < 0))) = true := by rw [hn, hbn]; rfl
    have hle : a * b ≤ 0 := Int.mul_nonpos_of_nonpos_of_nonneg (by omega) (by omega)
    have hneg : IntKind.i64.wrap (0 - ((a * b).natAbs : Int)) = a * b := by rw [wrapI (by omega)]; omega
    refine enter rfl Tryd.func118 rfl Tryd.ntmps118 rfl ?_
    dsimp only [List.cons_append, List.nil_append, List.length_cons, List.length_nil, List.replicate_succ, List.replicate_zero, Nat.reduceAdd, Nat.reduceSub]
    repeat' (first
      | dsimp only [putD, DV.cells, DH.new_next, DH.set_next, List.length_cons, List.length_nil, Nat.reduceAdd, List.set_cons_zero, List.set_cons_succ, getD_zero, getD_succ, fieldAt_zero, fieldAt_succ, thenD, blockD, retR]
      | apply dwp_seq
      | apply dwp_region
      | apply ops_nil
      | (apply ops_plain; (· exact rfl))
      | (apply ops_on; (· exact rfl); (· exact rfl); (· (first | with_reducible assumption | with_reducible rfl | decide)))
      | (apply op_call; (· exact rfl); (· exact rfl); (· exact rfl); (refine (may69x (.three obj_here' ha hb f1)).mono ?_; rintro r H' ⟨rfl, rfl⟩))
      | (apply op_call; (· exact rfl); (· exact rfl); (· exact rfl); (refine (size70x ha _).mono ?_; rintro r H' ⟨rfl, rfl⟩))
      | (apply op_call; (· exact rfl); (· exact rfl); (· exact rfl); (refine (size70x hb _).mono ?_; rintro r H' ⟨rfl, rfl⟩))
      | (apply op_call; (· exact rfl); (· exact rfl); (· exact rfl); (refine (mulx122 c1 c2 c4 _).mono ?_; rintro r H' ⟨rfl, rfl⟩))
      | (apply op_call; (· exact rfl); (· exact rfl); (· exact rfl); (refine (div123x c5 _).mono ?_; rintro r H' ⟨rfl, rfl⟩))
      | (apply op_call; (· exact rfl); (· exact rfl); (· exact rfl); (refine (told124x hab _).mono ?_; rintro r H' ⟨rfl, hab2⟩))
      | (apply op_pick_f; (· exact rfl); (· exact rfl); (· (first | with_reducible assumption | with_reducible rfl | decide)); (· exact rfl))
      | (apply op_told; (· exact rfl); (· exact congrArg (DV.int _) hneg))
      | (apply op_told; (· exact rfl); (· exact congrArg (DV.int _) hw))
      | (apply op_at; (· exact opD_neqb rfl rfl rfl rfl))
      | (apply op_at; (· exact rfl))
      | (apply dwp_cond_t; (· exact rfl); (· (first | with_reducible assumption | with_reducible rfl | decide)))
      | (apply dwp_cond_f; (· exact rfl); (· (first | with_reducible assumption | with_reducible rfl | decide)))
      | apply dwp_skip
      | apply dwp_ret
      | (refine ⟨_, rfl, ?_⟩)
      | fail)
    exact ⟨rfl, ((Above.refl _).new _).trans hab2⟩
  | false =>
    have hn' : ¬ a < 0 := by simpa using hn
    have h57 : (!(decide (a < 0) == decide (b < 0))) = false := by rw [hn, hbn]; rfl
    have hge : 0 ≤ a * b := Int.mul_nonneg (by omega) (by omega)
    have hw' : IntKind.i64.wrap ((a.natAbs : Int) * (b.natAbs : Int)) = a * b := by rw [hw]; omega
    refine enter rfl Tryd.func118 rfl Tryd.ntmps118 rfl ?_
    dsimp only [List.cons_append, List.nil_append, List.length_cons, List.length_nil, List.replicate_succ, List.replicate_zero, Nat.reduceAdd, Nat.reduceSub]
    repeat' (first
      | dsimp only [putD, DV.cells, DH.new_next, DH.set_next, List.length_cons, List.length_nil, Nat.reduceAdd, List.set_cons_zero, List.set_cons_succ, getD_zero, getD_succ, fieldAt_zero, fieldAt_succ, thenD, blockD, retR]
      | apply dwp_seq
      | apply dwp_region
      | apply ops_nil
      | (apply ops_plain; (· exact rfl))
      | (apply ops_on; (· exact rfl); (· exact rfl); (· (first | with_reducible assumption | with_reducible rfl | decide)))
      | (apply op_call; (· exact rfl); (· exact rfl); (· exact rfl); (refine (may69x (.three obj_here' ha hb f1)).mono ?_; rintro r H' ⟨rfl, rfl⟩))
      | (apply op_call; (· exact rfl); (· exact rfl); (· exact rfl); (refine (size70x ha _).mono ?_; rintro r H' ⟨rfl, rfl⟩))
      | (apply op_call; (· exact rfl); (· exact rfl); (· exact rfl); (refine (size70x hb _).mono ?_; rintro r H' ⟨rfl, rfl⟩))
      | (apply op_call; (· exact rfl); (· exact rfl); (· exact rfl); (refine (mulx122 c1 c2 c4 _).mono ?_; rintro r H' ⟨rfl, rfl⟩))
      | (apply op_call; (· exact rfl); (· exact rfl); (· exact rfl); (refine (div123x c5 _).mono ?_; rintro r H' ⟨rfl, rfl⟩))
      | (apply op_call; (· exact rfl); (· exact rfl); (· exact rfl); (refine (told124x hab _).mono ?_; rintro r H' ⟨rfl, hab2⟩))
      | (apply op_pick_f; (· exact rfl); (· exact rfl); (· (first | with_reducible assumption | with_reducible rfl | decide)); (· exact rfl))
      | (apply op_told; (· exact rfl); (· exact congrArg (DV.int _) hw'))
      | (apply op_at; (· exact opD_neqb rfl rfl rfl rfl))
      | (apply op_at; (· exact rfl))
      | (apply dwp_cond_f; (· exact rfl); (· (first | with_reducible assumption | with_reducible rfl | decide)))
      | apply dwp_skip
      | apply dwp_ret
      | (refine ⟨_, rfl, ?_⟩)
      | fail)
    exact ⟨rfl, ((Above.refl _).new _).trans hab2⟩
theorem pmul109x {a b : Int} (ha : Fit a) (hb0 : 0 < b) (hb : Fit b) (hab : Fit (a * b)) (H : DH) : CallWp Tryd.prog X1 109 [.int .i64 a, .int .i64 b] H (fun r H' => r = .tuple [.int .i64 (a * b), .int .i64 0] ∧ Above H H') := by
  refine enter rfl Tryd.func109 rfl Tryd.ntmps109 rfl ?_
  dsimp only [List.cons_append, List.nil_append, List.length_cons, List.length_nil, List.replicate_succ, List.replicate_zero, Nat.reduceAdd, Nat.reduceSub]
  repeat' (first
    | dsimp only [putD, DV.cells, DH.new_next, DH.set_next, List.length_cons, List.length_nil, Nat.reduceAdd, List.set_cons_zero, List.set_cons_succ, getD_zero, getD_succ, fieldAt_zero, fieldAt_succ, thenD, blockD, retR]
    | apply dwp_seq
    | apply dwp_region
    | apply ops_nil
    | (apply ops_plain; (· exact rfl))
    | (apply op_call; (· exact rfl); (· exact rfl); (· exact rfl); (refine (scale118x ha hb0 hb hab _).mono ?_; rintro r H' ⟨rfl, hab2⟩))
    | (apply op_at; (· exact rfl))
    | apply dwp_ret
    | (refine ⟨_, rfl, ?_⟩)
    | fail)
  exact ⟨rfl, hab2⟩
end Go.Det.C

/- Times are read: what they are. -/
namespace Go.Det.C
open Go Go.Det Go.Proofs
set_option maxRecDepth 4000
set_option maxHeartbeats 4000000
set_option linter.unusedVariables false
set_option linter.unusedSimpArgs false
theorem isDig_range {c : UInt8} (h : isDig c = true) : 48 ≤ (c.toNat : Int) ∧ (c.toNat : Int) ≤ 57 := by
  unfold isDig at h
  simp only [Bool.and_eq_true, decide_eq_true_eq, UInt8.le_iff_toNat_le] at h
  have h3 : (48 : UInt8).toNat = 48 := rfl
  have h4 : (57 : UInt8).toNat = 57 := rfl
  omega
theorem isDig_not {c : UInt8} (h : isDig c = false) (h1 : 48 ≤ (c.toNat : Int)) : ¬ (c.toNat : Int) ≤ 57 := by
  intro h2
  have : isDig c = true := by
    unfold isDig
    simp only [Bool.and_eq_true, decide_eq_true_eq, UInt8.le_iff_toNat_le]
    have h3 : (48 : UInt8).toNat = 48 := rfl
    have h4 : (57 : UInt8).toNat = 57 := rfl
    omega
  rw [this] at h; cases h
theorem wrapB {n : Int} (h : 0 ≤ n ∧ n < 256) : IntKind.u8.wrap n = n := by
  unfold IntKind.wrap
  simp only [IntKind.signed, IntKind.bits]
  simp
  omega
theorem digVal_mono {d : List UInt8} (h : ∀ c ∈ d, isDig c = true) : ∀ j k, k + j = d.length → digVal (d.take k) ≤ digVal d := by
  intro j
  induction j with
  | zero => intro k hk; rw [List.take_of_length_le (by omega)]; exact Int.le_refl _
  | succ j ih =>
    intro k hk
    have hlt : k < d.length := by omega
    have h1 := ih (k + 1) (by omega)
    have h2 := digVal_snoc (d := d) (k := k) (c := d[k]) (List.getElem?_eq_getElem hlt)
    have h3 := isDig_range (h _ (List.getElem_mem hlt))
    have h4 := (digVal_bound (d.take k) (fun x hx => h x (List.mem_of_mem_take hx))).1
    omega
theorem unitF_range {u : List UInt8} {ps : Int} (h : unitF u = some ps) : 0 < ps ∧ ps ≤ 1000000000000 := by
  unfold unitF at h
  (repeat' split at h) <;> first | (cases h; decide) | cases h
theorem read96x {r d u : List UInt8} {b : Bool} {ps : Int} (hr : r = d ++ u) (hd : d ≠ []) (hall : ∀ c ∈ d, isDig c = true) (hu : ∀ c t, u = c :: t → isDig c = false) (hps : unitF u = some ps) (hmax : digVal d * ps ≤ 1152921504606846976) (hlen : r.length ≤ 65535) (H : DH) :
    CallWp Tryd.prog X1r 96 [.str (if b = true then 45 :: r else r)] H (fun q H' => q = .tuple [.int .i64 ((if b = true then - digVal d else digVal d) * ps), .int .i64 0] ∧ Above H H') := by
  have hpr := unitF_range hps
  have hun : unitN u = ps := by unfold unitN; rw [hps]; rfl
  have hus : (unitF u).isSome = true := by rw [hps]; rfl
  have hd0 := (digVal_bound d hall).1
  have hdm : digVal d ≤ 1152921504606846976 := by
    have : digVal d * 1 ≤ digVal d * ps := Int.mul_le_mul_of_nonneg_left (by omega) hd0
    omega
  have hdn : 0 < d.length := List.length_pos_iff.mpr hd
  have hrl : r.length = d.length + u.length := by rw [hr, List.length_append]
  have fps : Fit ps := by unfold Fit; omega
  have hge : 0 ≤ digVal d * ps := Int.mul_nonneg hd0 (by omega)
  obtain ⟨s, hs⟩ : ∃ s, (if b = true then 45 :: r else r) = s := ⟨_, rfl⟩
  rw [hs]
  have hs1 : ∃ c t, s = c :: t ∧ ((c.toNat : Int) == 45) = b ∧ (b = true → t = r) ∧ (b = false → s = r) ∧ t.length ≤ 65535 := by
    cases b with
    | true => rw [if_pos rfl] at hs; exact ⟨45, r, hs.symm, rfl, fun _ => rfl, fun h => (by cases h), hlen⟩
    | false =>
      rw [if_neg (by simp)] at hs
      cases hd' : d with
      | nil => exact absurd hd' hd
      | cons c t =>
        have hg := isDig_range (hall c (by rw [hd']; exact List.mem_cons_self))
        refine ⟨c, t ++ u, by rw [← hs, hr, hd']; rfl, by simp; omega, fun h => (by cases h), fun _ => hs.symm, ?_⟩
        have : r.length = (t ++ u).length + 1 := by rw [hr, hd']; rfl
        omega
  obtain ⟨c0, t, rfl, hc45, ht1, ht2, htl⟩ := hs1
  have hl0 : decide (((t.length + 1 : Nat) : Int) > 0) = true := by simp
  refine enter rfl Tryd.func96 rfl Tryd.ntmps96 rfl ?_
  dsimp only [List.cons_append, List.nil_append, List.length_cons, List.length_nil, List.replicate_succ, List.replicate_zero, Nat.reduceAdd, Nat.reduceSub]
  repeat' (first
    | dsimp only [putD, DV.cells, DH.new_next, DH.set_next, List.length_cons, List.length_nil, Nat.reduceAdd, List.set_cons_zero, List.set_cons_succ, getD_zero, getD_succ, fieldAt_zero, fieldAt_succ, thenD, blockD, retR]
    | (refine dwp_cutCond (t := 21) (fun st => ∃ J : Nat → DV, st = ⟨(J 0 :: J 1 :: J 2 :: J 3 :: .str r :: .bool b :: J 6 :: J 7 :: J 8 :: J 9 :: J 10 :: J 11 :: J 12 :: J 13 :: J 14 :: J 15 :: J 16 :: J 17 :: J 18 :: J 19 :: J 20 :: J 21 :: J 22 :: J 23 :: J 24 :: J 25 :: J 26 :: J 27 :: J 28 :: J 29 :: J 30 :: J 31 :: J 32 :: J 33 :: J 34 :: J 35 :: J 36 :: J 37 :: J 38 :: J 39 :: J 40 :: J 41 :: J 42 :: J 43 :: J 44 :: J 45 :: J 46 :: J 47 :: J 48 :: J 49 :: J 50 :: J 51 :: J 52 :: J 53 :: J 54 :: J 55 :: J 56 :: J 57 :: J 58 :: J 59 :: J 60 :: J 61 :: J 62 :: J 63 :: J 64 :: J 65 :: J 66 :: J 67 :: J 68 :: J 69 :: J 70 :: J 71 :: J 72 :: J 73 :: J 74 :: J 75 :: J 76 :: J 77 :: J 78 :: J 79 :: J 80 :: J 81 :: J 82 :: J 83 :: []), H⟩) ?_ ?_)
    | apply dwp_seq
    | apply dwp_region
    | apply ops_nil
    | (apply ops_plain; (· exact rfl))
    | (apply ops_on; (· exact rfl); (· exact rfl); (· (first | with_reducible assumption | with_reducible rfl | decide)))
    | (apply op_pick_t; (· exact rfl); (· exact rfl); (· (first | with_reducible assumption | with_reducible rfl | decide)); (· exact rfl))
    | (apply op_at; (· exact opD_strIndex (b := c0) rfl rfl rfl rfl (by decide) rfl))
    | (apply op_at; (· exact rfl))
    | fail)
  · refine ⟨?_⟩
    cases b with
    | true =>
      obtain rfl := ht1 rfl
      repeat' (first
        | dsimp only [putD, DV.cells, DH.new_next, DH.set_next, List.length_cons, List.length_nil, Nat.reduceAdd, List.set_cons_zero, List.set_cons_succ, getD_zero, getD_succ, fieldAt_zero, fieldAt_succ, thenD, blockD, retR]
        | apply dwp_region
        | apply ops_nil
        | (apply ops_plain; (· exact rfl))
        | (apply op_at; (· exact opD_strDrop rfl rfl rfl rfl ⟨by decide, by simp only [List.length_cons]; omega⟩))
        | (apply op_at; (· exact rfl))
        | (apply dwp_cond_t; (· exact rfl); (· (first | with_reducible assumption | with_reducible rfl | decide)))
        | fail)
      exact ⟨rfl, junk_eq rfl rfl⟩
    | false =>
      obtain rfl := ht2 rfl
      repeat' (first
        | (apply dwp_cond_f; (· exact rfl); (· (first | with_reducible assumption | with_reducible rfl | decide)))
        | apply dwp_skip
        | fail)
      exact ⟨rfl, junk_eq rfl rfl⟩
  · rintro st ⟨J, rfl⟩
    try dsimp only [thenD]
    repeat' (first
      | dsimp only [putD, DV.cells, DH.new_next, DH.set_next, List.length_cons, List.length_nil, Nat.reduceAdd, List.set_cons_zero, List.set_cons_succ, getD_zero, getD_succ, fieldAt_zero, fieldAt_succ, thenD, blockD, retR]
      | (refine dwp_cutBlock (id := 0) (fun st => ∃ J : Nat → DV, st = ⟨(J 0 :: J 1 :: J 2 :: J 3 :: .str r :: .bool b :: .int .i64 (d.length : Int) :: J 7 :: J 8 :: J 9 :: J 10 :: J 11 :: J 12 :: J 13 :: J 14 :: J 15 :: J 16 :: J 17 :: J 18 :: J 19 :: J 20 :: J 21 :: J 22 :: J 23 :: J 24 :: J 25 :: J 26 :: J 27 :: J 28 :: J 29 :: J 30 :: J 31 :: J 32 :: J 33 :: J 34 :: J 35 :: J 36 :: J 37 :: J 38 :: J 39 :: J 40 :: J 41 :: J 42 :: J 43 :: J 44 :: J 45 :: J 46 :: J 47 :: J 48 :: J 49 :: J 50 :: J 51 :: J 52 :: J 53 :: J 54 :: J 55 :: J 56 :: J 57 :: J 58 :: J 59 :: J 60 :: J 61 :: J 62 :: J 63 :: J 64 :: J 65 :: J 66 :: J 67 :: J 68 :: J 69 :: J 70 :: J 71 :: J 72 :: J 73 :: J 74 :: J 75 :: J 76 :: J 77 :: J 78 :: J 79 :: J 80 :: J 81 :: J 82 :: J 83 :: []), H⟩) ?_ ?_)
      | apply dwp_seq
      | apply dwp_region
      | apply ops_nil
      | (apply ops_plain; (· exact rfl))
      | (apply op_at; (· exact rfl))
      | fail)
    · refine ⟨?_⟩
      repeat' (first
        | apply dwp_block
        | fail)
      refine dwp_loop (fun st => ∃ (m : Nat), ∃ J : Nat → DV, (m ≤ d.length) ∧ st = ⟨(J 0 :: J 1 :: J 2 :: J 3 :: .str r :: .bool b :: .int .i64 (m : Int) :: J 7 :: J 8 :: J 9 :: J 10 :: J 11 :: J 12 :: J 13 :: J 14 :: J 15 :: J 16 :: J 17 :: J 18 :: J 19 :: J 20 :: J 21 :: J 22 :: J 23 :: J 24 :: J 25 :: J 26 :: J 27 :: J 28 :: J 29 :: J 30 :: J 31 :: J 32 :: J 33 :: J 34 :: J 35 :: J 36 :: J 37 :: J 38 :: J 39 :: J 40 :: J 41 :: J 42 :: J 43 :: J 44 :: J 45 :: J 46 :: J 47 :: J 48 :: J 49 :: J 50 :: J 51 :: J 52 :: J 53 :: J 54 :: J 55 :: J 56 :: J 57 :: J 58 :: J 59 :: J 60 :: J 61 :: J 62 :: J 63 :: J 64 :: J 65 :: J 66 :: J 67 :: J 68 :: J 69 :: J 70 :: J 71 :: J 72 :: J 73 :: J 74 :: J 75 :: J 76 :: J 77 :: J 78 :: J 79 :: J 80 :: J 81 :: J 82 :: J 83 :: []), H⟩) (fun st => r.length - kOf st 6) (⟨0, junk_facts (Nat.zero_le _) rfl rfl⟩) ?_
      rintro st ⟨m, J, hm, rfl⟩
      have hw := wrapN (k := m) (by omega)
      by_cases hlt : m < d.length
      · obtain ⟨c, hc⟩ : ∃ c, d[m]? = some c := ⟨d[m], List.getElem?_eq_getElem hlt⟩
        have hc1 : r[((m : Int)).toNat]? = some c := by rw [Int.toNat_natCast, hr, List.getElem?_append_left hlt]; exact hc
        have hl0 : decide ((m : Int) < (r.length : Int)) = true := by simp; omega
        have hdg := isDig_range (hall c (List.mem_of_getElem? hc))
        have h48 : decide (48 ≤ (c.toNat : Int)) = true := by simpa using hdg.1
        have h57 : decide ((c.toNat : Int) ≤ 57) = true := by simpa using hdg.2
        have h0 : 0 ≤ (m : Int) := by omega
        repeat' (first
          | dsimp only [putD, DV.cells, DH.new_next, DH.set_next, List.length_cons, List.length_nil, Nat.reduceAdd, List.set_cons_zero, List.set_cons_succ, getD_zero, getD_succ, fieldAt_zero, fieldAt_succ, thenD, blockD, retR]
          | apply dwp_seq
          | apply dwp_region
          | apply ops_nil
          | (apply ops_plain; (· exact rfl))
          | (apply ops_on; (· exact rfl); (· exact rfl); (· (first | with_reducible assumption | with_reducible rfl | decide)))
          | (apply op_pick_t; (· exact rfl); (· exact rfl); (· (first | with_reducible assumption | with_reducible rfl | decide)); (· exact rfl))
          | (apply op_at; (· exact opD_strIndex (b := c) rfl rfl rfl rfl h0 hc1))
          | (apply op_at; (· exact rfl))
          | (apply dwp_cond_t; (· exact rfl); (· (first | with_reducible assumption | with_reducible rfl | decide)))
          | apply dwp_block
          | apply dwp_skip
          | fail)
        rw [hw]
        refine ⟨⟨m + 1, junk_facts (by omega) rfl rfl⟩, ?_⟩
        show r.length - ((m + 1 : Nat) : Int).toNat < r.length - (m : Int).toNat
        omega
      · obtain rfl : m = d.length := by omega
        cases hu0 : u with
        | nil =>
          have hl0 : decide ((d.length : Int) < (r.length : Int)) = false := by rw [hrl, hu0]; simp
          repeat' (first
            | dsimp only [putD, DV.cells, DH.new_next, DH.set_next, List.length_cons, List.length_nil, Nat.reduceAdd, List.set_cons_zero, List.set_cons_succ, getD_zero, getD_succ, fieldAt_zero, fieldAt_succ, thenD, blockD, retR]
            | apply dwp_seq
            | apply dwp_region
            | apply ops_nil
            | (apply ops_plain; (· exact rfl))
            | (apply ops_off1; (· exact rfl); (· exact rfl); (· (first | with_reducible assumption | with_reducible rfl | decide)))
            | (apply op_pick_f; (· exact rfl); (· exact rfl); (· (first | with_reducible assumption | with_reducible rfl | decide)); (· exact rfl))
            | (apply op_at; (· exact rfl))
            | (apply dwp_cond_f; (· exact rfl); (· (first | with_reducible assumption | with_reducible rfl | decide)))
            | apply dwp_exit
            | fail)
          rw [if_pos rfl]; exact ⟨rfl, junk_eq rfl rfl⟩
        | cons c t =>
          have hc1 : r[((d.length : Int)).toNat]? = some c := by rw [Int.toNat_natCast, hr, List.getElem?_append_right (Nat.le_refl _), hu0, Nat.sub_self]; rfl
          have hl0 : decide ((d.length : Int) < (r.length : Int)) = true := by rw [hrl, hu0]; simp; omega
          have h0 : 0 ≤ (d.length : Int) := by omega
          have hnd := hu c t hu0
          cases h48 : decide (48 ≤ (c.toNat : Int)) with
          | true =>
            have h57 : decide ((c.toNat : Int) ≤ 57) = false := by simpa using isDig_not hnd (by simpa using h48)
            repeat' (first
              | dsimp only [putD, DV.cells, DH.new_next, DH.set_next, List.length_cons, List.length_nil, Nat.reduceAdd, List.set_cons_zero, List.set_cons_succ, getD_zero, getD_succ, fieldAt_zero, fieldAt_succ, thenD, blockD, retR]
              | apply dwp_seq
              | apply dwp_region
              | apply ops_nil
              | (apply ops_plain; (· exact rfl))
              | (apply ops_on; (· exact rfl); (· exact rfl); (· (first | with_reducible assumption | with_reducible rfl | decide)))
              | (apply op_pick_t; (· exact rfl); (· exact rfl); (· (first | with_reducible assumption | with_reducible rfl | decide)); (· exact rfl))
              | (apply op_at; (· exact opD_strIndex (b := c) rfl rfl rfl rfl h0 hc1))
              | (apply op_at; (· exact rfl))
              | (apply dwp_cond_f; (· exact rfl); (· (first | with_reducible assumption | with_reducible rfl | decide)))
              | apply dwp_exit
              | fail)
            rw [if_pos rfl]; exact ⟨rfl, junk_eq rfl rfl⟩
          | false =>
            repeat' (first
              | dsimp only [putD, DV.cells, DH.new_next, DH.set_next, List.length_cons, List.length_nil, Nat.reduceAdd, List.set_cons_zero, List.set_cons_succ, getD_zero, getD_succ, fieldAt_zero, fieldAt_succ, thenD, blockD, retR]
              | apply dwp_seq
              | apply dwp_region
              | apply ops_nil
              | (apply ops_plain; (· exact rfl))
              | (apply ops_on; (· exact rfl); (· exact rfl); (· (first | with_reducible assumption | with_reducible rfl | decide)))
              | (apply ops_off1; (· exact rfl); (· exact rfl); (· (first | with_reducible assumption | with_reducible rfl | decide)))
              | (apply op_pick_t; (· exact rfl); (· exact rfl); (· (first | with_reducible assumption | with_reducible rfl | decide)); (· exact rfl))
              | (apply op_pick_f; (· exact rfl); (· exact rfl); (· (first | with_reducible assumption | with_reducible rfl | decide)); (· exact rfl))
              | (apply op_at; (· exact opD_strIndex (b := c) rfl rfl rfl rfl h0 hc1))
              | (apply op_at; (· exact rfl))
              | (apply dwp_cond_f; (· exact rfl); (· (first | with_reducible assumption | with_reducible rfl | decide)))
              | apply dwp_exit
              | fail)
            rw [if_pos rfl]; exact ⟨rfl, junk_eq rfl rfl⟩
    · rintro st ⟨J, rfl⟩
      try dsimp only [thenD]
      have hin : 0 ≤ (d.length : Int) ∧ (d.length : Int) ≤ (r.length : Int) := by omega
      have hdrop : r.drop ((d.length : Int)).toNat = u := by rw [Int.toNat_natCast, hr]; exact List.drop_left
      have hz0 : ((d.length : Int) == 0) = false := by simp; omega
      repeat' (first
        | dsimp only [putD, DV.cells, DH.new_next, DH.set_next, List.length_cons, List.length_nil, Nat.reduceAdd, List.set_cons_zero, List.set_cons_succ, getD_zero, getD_succ, fieldAt_zero, fieldAt_succ, thenD, blockD, retR]
        | apply dwp_seq
        | apply dwp_region
        | apply ops_nil
        | (apply ops_plain; (· exact rfl))
        | (apply ops_on; (· exact rfl); (· exact rfl); (· (first | with_reducible assumption | with_reducible rfl | decide)))
        | (apply op_call; (· exact rfl); (· exact rfl); (· exact rfl); (refine (CallWp.up up1r (unit95 _ _)).mono ?_; rintro r1 H1 ⟨rfl, hab⟩; rw [hun, hus]))
        | (apply op_pick_f; (· exact rfl); (· exact rfl); (· (first | with_reducible assumption | with_reducible rfl | decide)); (· exact rfl))
        | (apply op_told; (· exact opD_strDrop rfl rfl rfl rfl hin); (· exact congrArg DV.str hdrop))
        | (apply op_at; (· exact rfl))
        | (apply dwp_cond_f; (· exact rfl); (· (first | with_reducible assumption | with_reducible rfl | decide)))
        | apply dwp_block
        | apply dwp_skip
        | fail)
      refine dwp_loop (fun st => ∃ (k : Nat), ∃ J : Nat → DV, (k ≤ d.length) ∧ st = ⟨(J 0 :: J 1 :: J 2 :: J 3 :: .str r :: .bool b :: .int .i64 (d.length : Int) :: .int .i64 ps :: J 8 :: .int .i64 (digVal (d.take k)) :: J 10 :: J 11 :: J 12 :: J 13 :: J 14 :: J 15 :: J 16 :: J 17 :: J 18 :: J 19 :: J 20 :: J 21 :: J 22 :: J 23 :: J 24 :: J 25 :: J 26 :: J 27 :: J 28 :: J 29 :: J 30 :: J 31 :: J 32 :: J 33 :: J 34 :: J 35 :: J 36 :: J 37 :: J 38 :: J 39 :: J 40 :: J 41 :: J 42 :: J 43 :: J 44 :: J 45 :: J 46 :: J 47 :: J 48 :: J 49 :: J 50 :: J 51 :: J 52 :: J 53 :: J 54 :: .int .i64 (d.length : Int) :: .int .i64 (k : Int) :: J 57 :: J 58 :: J 59 :: J 60 :: J 61 :: J 62 :: J 63 :: J 64 :: J 65 :: J 66 :: J 67 :: J 68 :: J 69 :: J 70 :: J 71 :: J 72 :: J 73 :: J 74 :: J 75 :: J 76 :: J 77 :: J 78 :: J 79 :: J 80 :: J 81 :: J 82 :: J 83 :: []), H1⟩) (fun st => d.length - kOf st 56) (⟨0, junk_facts (Nat.zero_le _) rfl rfl⟩) ?_
      rintro st ⟨k, J, hk, rfl⟩
      have hv := digVal_bound (d.take k) (fun x hx => hall x (List.mem_of_mem_take hx))
      by_cases hlt : k < d.length
      · obtain ⟨c, hc⟩ : ∃ c, d[k]? = some c := ⟨d[k], List.getElem?_eq_getElem hlt⟩
        have hc1 : r[((k : Int)).toNat]? = some c := by rw [Int.toNat_natCast, hr, List.getElem?_append_left hlt]; exact hc
        have hl0 : decide ((k : Int) < (d.length : Int)) = true := by simp [hlt]
        have h0 : 0 ≤ (k : Int) := by omega
        have hdg := isDig_range (hall c (List.mem_of_getElem? hc))
        have hsn := digVal_snoc hc
        have hmo := digVal_mono hall (d.length - (k + 1)) (k + 1) (by omega)
        have g60 : decide (digVal (d.take k) > 115292150460684697) = false := by simp; omega
        have g70 : decide (digVal (d.take (k + 1)) > 1152921504606846976) = false := by simp; omega
        have w1 : IntKind.i64.wrap (10 * digVal (d.take k)) = 10 * digVal (d.take k) := wrapI (by omega)
        have w2 : IntKind.u8.wrap ((c.toNat : Int) - 48) = (c.toNat : Int) - 48 := wrapB (by omega)
        have w3 : IntKind.i64.wrap ((c.toNat : Int) - 48) = (c.toNat : Int) - 48 := wrapI (by omega)
        have w4 : IntKind.i64.wrap (10 * digVal (d.take k) + ((c.toNat : Int) - 48)) = digVal (d.take (k + 1)) := by rw [hsn]; exact wrapI (by omega)
        repeat' (first
          | dsimp only [putD, DV.cells, DH.new_next, DH.set_next, List.length_cons, List.length_nil, Nat.reduceAdd, List.set_cons_zero, List.set_cons_succ, getD_zero, getD_succ, fieldAt_zero, fieldAt_succ, thenD, blockD, retR]
          | apply dwp_seq
          | apply dwp_region
          | apply ops_nil
          | (apply ops_plain; (· exact rfl))
          | (apply op_at; (· exact opD_strIndex (b := c) rfl rfl rfl rfl h0 hc1))
          | (apply op_told; (· exact rfl); (· exact congrArg (DV.int _) w1))
          | (apply op_told; (· exact rfl); (· exact congrArg (DV.int _) w2))
          | (apply op_told; (· exact rfl); (· exact congrArg (DV.int _) w3))
          | (apply op_told; (· exact rfl); (· exact congrArg (DV.int _) w4))
          | (apply op_at; (· exact rfl))
          | (apply dwp_cond_t; (· exact rfl); (· (first | with_reducible assumption | with_reducible rfl | decide)))
          | (apply dwp_cond_f; (· exact rfl); (· (first | with_reducible assumption | with_reducible rfl | decide)))
          | apply dwp_block
          | apply dwp_skip
          | fail)
        have hw := wrapN (k := k) (by omega)
        rw [hw]
        refine ⟨⟨k + 1, junk_facts (by omega) rfl rfl⟩, ?_⟩
        show d.length - ((k + 1 : Nat) : Int).toNat < d.length - (k : Int).toNat
        omega
      · have hl0 : decide ((k : Int) < (d.length : Int)) = false := by simp; omega
        obtain rfl : k = d.length := by omega
        rw [List.take_length]
        have wn : IntKind.i64.wrap (0 - digVal d) = - digVal d := by rw [wrapI (by omega)]; omega
        cases b with
        | true =>
          repeat' (first
            | dsimp only [putD, DV.cells, DH.new_next, DH.set_next, List.length_cons, List.length_nil, Nat.reduceAdd, List.set_cons_zero, List.set_cons_succ, getD_zero, getD_succ, fieldAt_zero, fieldAt_succ, thenD, blockD, retR]
            | apply dwp_seq
            | apply dwp_region
            | apply ops_nil
            | (apply ops_plain; (· exact rfl))
            | (apply op_call; (· exact rfl); (· exact rfl); (· exact rfl); (refine (CallWp.up up1r (pmul109x (a := - digVal d) (b := ps) (by unfold Fit; omega) hpr.1 fps (by unfold Fit; rw [Int.neg_mul]; omega) _)).mono ?_; rintro r2 H2 ⟨rfl, hab2⟩))
            | (apply op_told; (· exact rfl); (· exact congrArg (DV.int _) wn))
            | (apply op_at; (· exact rfl))
            | (apply dwp_cond_t; (· exact rfl); (· (first | with_reducible assumption | with_reducible rfl | decide)))
            | (apply dwp_cond_f; (· exact rfl); (· (first | with_reducible assumption | with_reducible rfl | decide)))
            | apply dwp_skip
            | apply dwp_ret
            | apply dwp_exit
            | (refine ⟨_, rfl, ?_⟩)
            | fail)
          exact ⟨rfl, hab.trans hab2⟩
        | false =>
          repeat' (first
            | dsimp only [putD, DV.cells, DH.new_next, DH.set_next, List.length_cons, List.length_nil, Nat.reduceAdd, List.set_cons_zero, List.set_cons_succ, getD_zero, getD_succ, fieldAt_zero, fieldAt_succ, thenD, blockD, retR]
            | apply dwp_seq
            | apply dwp_region
            | apply ops_nil
            | (apply ops_plain; (· exact rfl))
            | (apply op_call; (· exact rfl); (· exact rfl); (· exact rfl); (refine (CallWp.up up1r (pmul109x (a := digVal d) (b := ps) (by unfold Fit; omega) hpr.1 fps (by unfold Fit; omega) _)).mono ?_; rintro r2 H2 ⟨rfl, hab2⟩))
            | (apply op_at; (· exact rfl))
            | (apply dwp_cond_f; (· exact rfl); (· (first | with_reducible assumption | with_reducible rfl | decide)))
            | apply dwp_skip
            | apply dwp_ret
            | apply dwp_exit
            | (refine ⟨_, rfl, ?_⟩)
            | fail)
          exact ⟨rfl, hab.trans hab2⟩
/-- What Read answers. -/
theorem readF_exact {r d u : List UInt8} {b : Bool} {ps : Int} (hr : r = d ++ u) (hd : d ≠ []) (hall : ∀ c ∈ d, isDig c = true) (hu : ∀ c t, u = c :: t → isDig c = false) (hps : unitF u = some ps) (hmax : digVal d * ps ≤ 1152921504606846976) (hlen : r.length ≤ 65535) :
    readF (if b = true then 45 :: r else r) = ((if b = true then - digVal d else digVal d) * ps, 0) := by
  have hl : (if b = true then 45 :: r else r).length ≤ 65536 := by
    cases b
    · simp; omega
    · simp; omega
  obtain ⟨k, H1, h1⟩ := readF_run hl
  obtain ⟨k', q, H1', h2, ⟨rfl, _⟩⟩ := (read96x (b := b) hr hd hall hu hps hmax hlen H0).ex
  have h3 := callD_mono k (max k k') (Nat.le_max_left k k') _ _ _ _ h1
  have h4 := callD_mono k' (max k k') (Nat.le_max_right k k') _ _ _ _ h2
  rw [h3] at h4
  have h5 := (Prod.mk.inj (Option.some.inj h4)).1
  have h6 := DV.tuple.inj h5
  simp only [List.cons.injEq, DV.int.injEq, true_and, and_true] at h6
  exact Prod.ext h6.1 h6.2
end Go.Det.C

/- A number's text. -/
namespace Go.Det.C
open Go Go.Det Go.Proofs
set_option maxRecDepth 4000
set_option maxHeartbeats 4000000
set_option linter.unusedVariables false
set_option linter.unusedSimpArgs false
/-- A number's digits. -/
def decN (n : Nat) : List UInt8 := if h : n < 10 then [UInt8.ofNat (48 + n)] else decN (n / 10) ++ [UInt8.ofNat (48 + n % 10)]
termination_by n
decreasing_by omega
theorem decN_lt {n : Nat} (h : n < 10) : decN n = [UInt8.ofNat (48 + n)] := by rw [decN, dif_pos h]
theorem decN_ge {n : Nat} (h : ¬ n < 10) : decN n = decN (n / 10) ++ [UInt8.ofNat (48 + n % 10)] := by conv => lhs; rw [decN]; rw [dif_neg h]
def decF (n : Int) : List UInt8 := if n < 0 then 45 :: decN n.natAbs else decN n.natAbs
theorem ofNat_dig {n : Nat} (h : n < 10) : (UInt8.ofNat (48 + n)).toNat = 48 + n ∧ isDig (UInt8.ofNat (48 + n)) = true := by
  have e : (UInt8.ofNat (48 + n)).toNat = 48 + n := by rw [UInt8.toNat_ofNat']; omega
  refine ⟨e, ?_⟩
  unfold isDig
  simp only [Bool.and_eq_true, decide_eq_true_eq, UInt8.le_iff_toNat_le, e]
  have h3 : (48 : UInt8).toNat = 48 := rfl
  have h4 : (57 : UInt8).toNat = 57 := rfl
  omega
theorem decN_dig : ∀ (k n : Nat), n ≤ k → ∀ c ∈ decN n, isDig c = true := by
  intro k
  induction k with
  | zero =>
    intro n hn c hc
    rw [decN_lt (by omega)] at hc
    rw [List.mem_singleton] at hc
    subst hc
    exact (ofNat_dig (by omega)).2
  | succ k ih =>
    intro n hn c hc
    by_cases h : n < 10
    · rw [decN_lt h, List.mem_singleton] at hc
      subst hc
      exact (ofNat_dig h).2
    · rw [decN_ge h] at hc
      rcases List.mem_append.mp hc with hc | hc
      · exact ih _ (by omega) c hc
      · rw [List.mem_singleton] at hc
        subst hc
        exact (ofNat_dig (by omega)).2
theorem digVal_app (d : List UInt8) (c : UInt8) : digVal (d ++ [c]) = 10 * digVal d + ((c.toNat : Int) - 48) := by
  unfold digVal
  rw [List.foldl_append]
  rfl
theorem decN_val : ∀ (k n : Nat), n ≤ k → digVal (decN n) = n := by
  intro k
  induction k with
  | zero =>
    intro n hn
    obtain rfl : n = 0 := by omega
    rw [decN_lt (by decide)]
    rfl
  | succ k ih =>
    intro n hn
    by_cases h : n < 10
    · rw [decN_lt h]
      have e := (ofNat_dig h).1
      show 10 * 0 + (((UInt8.ofNat (48 + n)).toNat : Int) - 48) = _
      rw [e]; omega
    · rw [decN_ge h, digVal_app, ih _ (by omega), (ofNat_dig (by omega)).1]
      omega
theorem decN_len : ∀ (k n : Nat), n < 10 ^ (k + 1) → (decN n).length ≤ k + 1 := by
  intro k
  induction k with
  | zero =>
    intro n hn
    rw [decN_lt (by simpa using hn)]
    exact Nat.le_refl _
  | succ k ih =>
    intro n hn
    by_cases h : n < 10
    · rw [decN_lt h]; simp
    · rw [decN_ge h, List.length_append]
      have := ih (n / 10) (by rw [Nat.pow_succ] at hn; omega)
      simp only [List.length_cons, List.length_nil]
      omega
theorem decN_ne (n : Nat) : decN n ≠ [] := by
  by_cases h : n < 10
  · rw [decN_lt h]; simp
  · rw [decN_ge h]; simp
/-- A slice of one's own that is not empty leads to a box. -/
theorem own_box {z : Nat} {R : List (List DV)} {s : Sv} {bx : List (Nat × DObj)} (h : Own1 z R s.dv bx) (hR : R ≠ []) : ∃ b c ex rs, s = ⟨some (b, 0, z), R.length, c, ex⟩ ∧ bx = [(b, .rows false z rs)] ∧ rs.take R.length = R ∧ R.length ≤ rs.length ∧ c = rs.length := by
  obtain ⟨p, n, c, ex⟩ := s
  unfold Sv.dv at h
  dsimp only at h ⊢
  generalize hd : DV.sl p n c ex = d at h
  cases h with
  | nil h => exact absurd h hR
  | @«at» b c' ex' rs h1 h2 h3 =>
    cases hd
    exact ⟨_, _, _, _, rfl, rfl, h3, by rw [← h1]; exact h2, h1⟩
theorem rowsB_get (l : List UInt8) (j : Nat) : (rowsB l)[j]? = (l[j]?).map fun b => [DV.int .u8 b.toNat] := by simp [rowsB]
theorem rowsB_set (l : List UInt8) (j : Nat) (c : UInt8) : rowsB (l.set j c) = (rowsB l).set j [DV.int .u8 c.toNat] := by simp [rowsB]
theorem setRow1 {rs : List (List DV)} {j : Nat} {a b : DV} (h : rs[j]? = some [a]) (h1 : DV.one b = true) (hc : b.cells = [b]) : setRow rs j 0 b.cells = some (rs.set j [b]) := by
  unfold setRow
  rw [h, hc]
  simp only
  rw [if_pos ⟨by simp, by simp [h1]⟩]
  rfl
theorem rev_done {cur orig : List UInt8} {i : Nat} (hl : cur.length = orig.length) (h : ∀ j, j < orig.length → cur[j]? = if j < i ∨ orig.length ≤ j + i then orig[orig.length - 1 - j]? else orig[j]?) (hi : orig.length ≤ 2 * i + 1) : cur = orig.reverse := by
  apply List.ext_getElem?
  intro j
  by_cases hj : j < orig.length
  · rw [h j hj, List.getElem?_reverse hj]
    split
    · rfl
    · rw [show orig.length - 1 - j = j by omega]
  · rw [List.getElem?_eq_none (by omega), List.getElem?_eq_none (by simp; omega)]
theorem rev_step {cur orig : List UInt8} {i : Nat} {x y : UInt8} (hl : cur.length = orig.length) (h : ∀ j, j < orig.length → cur[j]? = if j < i ∨ orig.length ≤ j + i then orig[orig.length - 1 - j]? else orig[j]?) (hi : i < orig.length - 1 - i) (hx : cur[i]? = some x) (hy : cur[orig.length - 1 - i]? = some y) :
    ((cur.set i y).set (orig.length - 1 - i) x).length = orig.length ∧ ∀ j, j < orig.length → ((cur.set i y).set (orig.length - 1 - i) x)[j]? = if j < i + 1 ∨ orig.length ≤ j + (i + 1) then orig[orig.length - 1 - j]? else orig[j]? := by
  refine ⟨by simp [hl], fun j hj => ?_⟩
  have hx' := h i (by omega)
  have hy' := h (orig.length - 1 - i) (by omega)
  rw [hx, if_neg (by omega)] at hx'
  rw [hy, if_neg (by omega)] at hy'
  rw [List.getElem?_set]
  by_cases h1 : orig.length - 1 - i = j
  · rw [if_pos h1, if_pos (by simp; omega), if_pos (by omega), ← h1, show orig.length - 1 - (orig.length - 1 - i) = i by omega]
    exact hx'
  · rw [if_neg h1, List.getElem?_set]
    by_cases h2 : i = j
    · subst h2
      rw [if_pos rfl, if_pos (by omega), if_pos (by omega)]
      exact hy'
    · rw [if_neg h2, h j hj]
      by_cases h3 : j < i ∨ orig.length ≤ j + i
      · rw [if_pos h3, if_pos (by omega)]
      · rw [if_neg h3, if_neg (by omega)]
section
variable {A H : DH} {bs : List (Nat × DObj)} {fs : List (DH → Prop)} {K : DV → DH → Prop}
theorem opD_strAdd' {P : Program} {cf : CallF} {o : Oper} {env : List DV} {H : DH} {t u : TypeId} {x y : Operand} {a b : List UInt8} (ho : o.op = .binOp .add t x y u) (hx : evalO env x = some (.str a)) (hy : evalO env y = some (.str b)) (hl : a.length + b.length ≤ 4294967296) : opD P cf o env H = some (.str (a ++ b), H) := by
  simp only [opD, ho, mover, reader, pureD, hx, hy, binD, strOpD, hl, if_true]
  rfl
theorem dec59p {m0 : Nat} (hm : m0 < 1000000000000000000) (hB : Bx A H bs fs) (hK : ∀ H', Bx A H' bs fs → K (.str (decN m0)) H') : CallWp Tryd.prog X3 59 [.int .i64 (m0 : Int)] H K := by
  have hlen : (decN m0).length ≤ 18 := decN_len 17 m0 (by omega)
  have hneg : decide ((m0 : Int) < 0) = false := by simp
  refine enter rfl Tryd.func59 rfl Tryd.ntmps59 rfl ?_
  dsimp only [List.cons_append, List.nil_append, List.length_cons, List.length_nil, List.replicate_succ, List.replicate_zero, Nat.reduceAdd, Nat.reduceSub]
  repeat' (first
    | dsimp only [putD, DV.cells, DH.new_next, DH.set_next, List.length_cons, List.length_nil, Nat.reduceAdd, List.set_cons_zero, List.set_cons_succ, getD_zero, getD_succ, fieldAt_zero, fieldAt_succ, thenD, blockD, retR]
    | apply dwp_seq
    | apply dwp_region
    | apply ops_nil
    | (apply ops_plain; (· exact rfl))
    | (apply op_at; (· exact rfl))
    | (apply dwp_cond_f; (· exact rfl); (· (first | with_reducible assumption | with_reducible rfl | decide)))
    | apply dwp_block
    | apply dwp_skip
    | fail)
  refine dwp_loop (fun st => ∃ (s3 : Sv) (x3 : List (Nat × DObj)) (b : List UInt8) (H1 : DH) (m : Nat), ∃ J : Nat → DV, (Own1 1 (rowsB b) s3.dv x3 ∧ Bx A H1 (x3 ++ bs) fs ∧ m ≤ m0 ∧ decN m0 = decN m ++ b.reverse) ∧ st = ⟨(.int .i64 (m : Int) :: J 1 :: .str [] :: s3.dv :: .int .i64 (m : Int) :: J 5 :: J 6 :: J 7 :: J 8 :: J 9 :: J 10 :: J 11 :: J 12 :: J 13 :: J 14 :: J 15 :: J 16 :: J 17 :: J 18 :: J 19 :: J 20 :: J 21 :: J 22 :: J 23 :: J 24 :: J 25 :: J 26 :: J 27 :: J 28 :: J 29 :: J 30 :: J 31 :: J 32 :: J 33 :: J 34 :: J 35 :: J 36 :: J 37 :: J 38 :: J 39 :: J 40 :: J 41 :: J 42 :: J 43 :: J 44 :: J 45 :: J 46 :: J 47 :: J 48 :: J 49 :: J 50 :: J 51 :: J 52 :: J 53 :: J 54 :: J 55 :: J 56 :: J 57 :: J 58 :: []), H1⟩) (fun st => kOf st 4) (⟨⟨none, 0, 0, true⟩, [], [], _, m0, junk_facts (⟨.nil rfl, hB, Nat.le_refl _, by simp⟩) rfl rfl⟩) ?_
  rintro st ⟨s3, x3, b, H1, m, J, ⟨o3, hB, hmm, hdec⟩, rfl⟩
  have hbl : b.length ≤ 18 := by
    have := congrArg List.length hdec
    rw [List.length_append, List.length_reverse] at this
    omega
  have hl3 : (rowsB b).length + 1 ≤ mostD := by rw [rowsB_len]; unfold mostD; omega
  by_cases h9 : m < 10
  · have hc : decide ((m : Int) > 9) = false := by simp; omega
    have hu1 : IntKind.u8.wrap (m : Int) = (m : Int) := wrapB (by omega)
    have hu2 : IntKind.u8.wrap (48 + (m : Int)) = ((UInt8.ofNat (48 + m)).toNat : Int) := by rw [(ofNat_dig h9).1, wrapB (by omega)]; omega
    have hrows : rowsB (b ++ [UInt8.ofNat (48 + m)]) = rowsB b ++ [[.int .u8 ((UInt8.ofNat (48 + m)).toNat : Int)]] := by simp [rowsB]
    obtain ⟨orig, horig⟩ : ∃ o, b ++ [UInt8.ofNat (48 + m)] = o := ⟨_, rfl⟩
    rw [horig] at hrows
    have hrev : orig.reverse = decN m0 := by rw [hdec, decN_lt h9, ← horig]; simp
    have ho1 : 0 < orig.length := by rw [← horig]; simp
    have ho2 : orig.length ≤ 19 := by rw [← horig]; simp; omega
    have hone : rowsB orig ≠ [] := by intro h; have := congrArg List.length h; rw [rowsB_len, List.length_nil] at this; omega
    repeat' (first
      | dsimp only [putD, DV.cells, DH.new_next, DH.set_next, List.length_cons, List.length_nil, Nat.reduceAdd, List.set_cons_zero, List.set_cons_succ, getD_zero, getD_succ, fieldAt_zero, fieldAt_succ, thenD, blockD, retR]
      | apply dwp_seq
      | apply dwp_region
      | apply ops_nil
      | (apply ops_plain; (· exact rfl))
      | (apply op_told; (· exact rfl); (· exact congrArg (DV.int _) hu1))
      | (apply op_told; (· exact rfl); (· exact congrArg (DV.int _) hu2))
      | (apply bx_build1 et68; (· exact rfl); (· exact rfl); (· exact rfl); (· exact rfl); (· exact rfl); (· decide); (· assumption); intro bn H1 hB)
      | (apply op_append_s; (· exact rfl); (· exact rfl); (· exact rfl); (· exact rfl); (· exact et68); (· exact o3); (· assumption); (· (repeat (first | with_reducible exact Ctx.here | with_reducible apply Ctx.cons | with_reducible apply Ctx.app))); (· exact At.here); (· exact rfl); (· exact rfl); (· assumption); intro t3 y3 H1 q3 hB; replace q3 : Own1 1 (rowsB orig) t3.dv y3 := (by { rw [hrows]; exact q3 }); obtain ⟨bq, cq, eq, rs, e1, e2, htk, hrl, e3⟩ := own_box q3 hone; subst e1 e2 e3; rw [rowsB_len] at htk hrl; have hl1 : IntKind.i64.wrap ((((rowsB orig).length : Nat) : Int) - 1) = ((orig.length - 1 - 0 : Nat) : Int) := by { rw [rowsB_len, wrapI (by omega)]; omega }; dsimp only [List.cons_append, List.nil_append] at hB)
      | (apply op_told; (· exact rfl); (· exact congrArg (DV.int _) hl1))
      | (apply op_at; (· exact rfl))
      | (apply dwp_cond_f; (· exact rfl); (· (first | with_reducible assumption | with_reducible rfl | decide)))
      | apply dwp_block
      | apply dwp_exit
      | fail)
    refine dwp_loop (fun st => ∃ (H1 : DH) (rt : List (List DV)) (cur : List UInt8) (i : Nat), ∃ J : Nat → DV, (Bx A H1 ((bq, .rows false 1 rt) :: bs) fs ∧ rt.take orig.length = rowsB cur ∧ rt.length = rs.length ∧ cur.length = orig.length ∧ 2 * i ≤ orig.length ∧ ∀ j, j < orig.length → cur[j]? = if j < i ∨ orig.length ≤ j + i then orig[orig.length - 1 - j]? else orig[j]?) ∧ st = ⟨(.int .i64 (m : Int) :: J 1 :: .str [] :: .sl (some (bq, 0, 1)) (rowsB orig).length rs.length eq :: J 4 :: .int .i64 (i : Int) :: .int .i64 ((orig.length - 1 - i : Nat) : Int) :: J 7 :: J 8 :: J 9 :: J 10 :: J 11 :: J 12 :: J 13 :: J 14 :: J 15 :: J 16 :: J 17 :: J 18 :: J 19 :: J 20 :: J 21 :: J 22 :: J 23 :: J 24 :: J 25 :: J 26 :: J 27 :: J 28 :: J 29 :: J 30 :: J 31 :: J 32 :: J 33 :: J 34 :: J 35 :: J 36 :: J 37 :: J 38 :: J 39 :: J 40 :: J 41 :: J 42 :: J 43 :: J 44 :: J 45 :: J 46 :: J 47 :: J 48 :: J 49 :: J 50 :: J 51 :: J 52 :: J 53 :: J 54 :: J 55 :: J 56 :: J 57 :: J 58 :: []), H1⟩) (fun st => orig.length - kOf st 5) (⟨_, rs, orig, 0, junk_facts (⟨(hB.sub (by (repeat (first | exact List.Sublist.refl _ | exact List.nil_sublist _ | apply List.Sublist.cons_cons | apply List.Sublist.cons | apply List.Sublist.append_left | refine List.Sublist.trans ?_ (List.sublist_append_right _ _))))), htk, rfl, rfl, Nat.zero_le _, fun j hj => by rw [if_neg (by omega)]⟩) rfl rfl⟩) ?_
    rintro st ⟨H1, rt, cur, i, J, ⟨hB, htk, hrt, hcl, hi2, hcur⟩, rfl⟩
    have hii : i ≤ orig.length - 1 := by omega
    by_cases hlt : i < orig.length - 1 - i
    · have hc2 : decide ((i : Int) < ((orig.length - 1 - i : Nat) : Int)) = true := by simp; omega
      have hk : orig.length - 1 - i < orig.length := by omega
      obtain ⟨x, hx⟩ : ∃ x, cur[i]? = some x := ⟨cur[i]'(by omega), List.getElem?_eq_getElem _⟩
      obtain ⟨y, hy⟩ : ∃ y, cur[orig.length - 1 - i]? = some y := ⟨cur[orig.length - 1 - i]'(by omega), List.getElem?_eq_getElem _⟩
      obtain ⟨g1, g2⟩ := rev_step hcl hcur hlt hx hy
      have hge : ∀ (j : Nat) (v : UInt8), j < orig.length → cur[j]? = some v → rt[0 + ((j : Nat) : Int).toNat]? = some [DV.int .u8 v.toNat] := by
        intro j v hj hv
        have h1 : (rowsB cur)[j]? = some [DV.int .u8 v.toNat] := by rw [rowsB_get, hv]; rfl
        rw [← htk, List.getElem?_take, if_pos hj] at h1
        rw [Nat.zero_add, Int.toNat_natCast]
        exact h1
      have hr1 := hge _ _ (by omega) hx
      have hr2 := hge _ _ hk hy
      have hin1 : 0 ≤ (i : Int) ∧ (i : Int) < (((rowsB orig).length : Nat) : Int) := by rw [rowsB_len]; omega
      have hin2 : 0 ≤ ((orig.length - 1 - i : Nat) : Int) ∧ ((orig.length - 1 - i : Nat) : Int) < (((rowsB orig).length : Nat) : Int) := by rw [rowsB_len]; omega
      obtain ⟨rt1, ht1⟩ : ∃ r, rt.set (0 + ((i : Nat) : Int).toNat) [DV.int .u8 y.toNat] = r := ⟨_, rfl⟩
      obtain ⟨rt2, ht2⟩ : ∃ r, rt1.set (0 + ((orig.length - 1 - i : Nat) : Int).toNat) [DV.int .u8 x.toNat] = r := ⟨_, rfl⟩
      have hs1 : setRow rt (0 + ((i : Nat) : Int).toNat) 0 (DV.cells (.int .u8 y.toNat)) = some rt1 := by rw [← ht1]; exact setRow1 hr1 rfl rfl
      have hr2' : rt1[0 + ((orig.length - 1 - i : Nat) : Int).toNat]? = some [DV.int .u8 y.toNat] := by
        rw [← ht1, List.getElem?_set]
        rw [if_neg (by omega)]
        exact hr2
      have hs2 : setRow rt1 (0 + ((orig.length - 1 - i : Nat) : Int).toNat) 0 (DV.cells (.int .u8 x.toNat)) = some rt2 := by rw [← ht2]; exact setRow1 hr2' rfl rfl
      have htk2 : rt2.take orig.length = rowsB ((cur.set i y).set (orig.length - 1 - i) x) := by
        rw [← ht2, ← ht1, rowsB_set, rowsB_set, ← htk, Nat.zero_add, Nat.zero_add, Int.toNat_natCast, Int.toNat_natCast, List.take_set, List.take_set]
      have hrt2 : rt2.length = rs.length := by rw [← ht2, ← ht1, List.length_set, List.length_set, hrt]
      have hw1 : IntKind.i64.wrap ((i : Int) + 1) = ((i + 1 : Nat) : Int) := by rw [wrapI (by omega)]; omega
      have hw2 : IntKind.i64.wrap (((orig.length - 1 - i : Nat) : Int) - 1) = ((orig.length - 1 - (i + 1) : Nat) : Int) := by rw [wrapI (by omega)]; omega
      repeat' (first
        | dsimp only [putD, DV.cells, DH.new_next, DH.set_next, List.length_cons, List.length_nil, Nat.reduceAdd, List.set_cons_zero, List.set_cons_succ, getD_zero, getD_succ, fieldAt_zero, fieldAt_succ, thenD, blockD, retR]
        | refine dwp_drawr _ rfl (fun H' => Bx A H' ((bq, .rows false 1 rt) :: bs) fs) hB ?_
        | (apply drawr_pure; (· (first | exact wanted_plain rfl | (apply wanted_on; (· exact rfl); (· exact rfl); (· (first | with_reducible assumption | with_reducible rfl | decide))))); (· exact rfl); (· exact rfl); (· exact opD_index rfl rfl rfl rfl rfl hin1))
        | (apply drawr_pure; (· (first | exact wanted_plain rfl | (apply wanted_on; (· exact rfl); (· exact rfl); (· (first | with_reducible assumption | with_reducible rfl | decide))))); (· exact rfl); (· exact rfl); (· exact opD_index rfl rfl rfl rfl rfl hin2))
        | (apply draws_pure; (· (first | exact wanted_plain rfl | (apply wanted_on; (· exact rfl); (· exact rfl); (· (first | with_reducible assumption | with_reducible rfl | decide))))); (· exact rfl); (· exact rfl); (· exact opD_index rfl rfl rfl rfl rfl hin2))
        | (apply drawr_read; (· (first | exact wanted_plain rfl | (apply wanted_on; (· exact rfl); (· exact rfl); (· (first | with_reducible assumption | with_reducible rfl | decide))))); (· exact rfl); (· exact rfl); (· intro H' h; have h : Bx _ H' _ _ := h; exact opD_load rfl rfl (h.get At.here) hr1 rfl))
        | (apply drawr_read; (· (first | exact wanted_plain rfl | (apply wanted_on; (· exact rfl); (· exact rfl); (· (first | with_reducible assumption | with_reducible rfl | decide))))); (· exact rfl); (· exact rfl); (· intro H' h; have h : Bx _ H' _ _ := h; exact opD_load rfl rfl (h.get At.here) hr2 rfl))
        | (apply drawr_pure; (· (first | exact wanted_plain rfl | (apply wanted_on; (· exact rfl); (· exact rfl); (· (first | with_reducible assumption | with_reducible rfl | decide))))); (· exact rfl); (· exact rfl); (· exact rfl))
        | (apply drawr_sync_st; (· exact rfl); (· (first | exact wanted_plain rfl | (apply wanted_on; (· exact rfl); (· exact rfl); (· (first | with_reducible assumption | with_reducible rfl | decide))))); (· decide +kernel))
        | apply draws_nil
        | (apply draws_move; (· (first | exact wanted_plain rfl | (apply wanted_on; (· exact rfl); (· exact rfl); (· (first | with_reducible assumption | with_reducible rfl | decide))))); (· exact rfl); (· decide +kernel))
        | apply dwp_seq
        | apply dwp_region
        | apply ops_nil
        | (apply ops_plain; (· exact rfl))
        | (apply bx_store; (· exact rfl); (· exact rfl); (· exact rfl); (· assumption); (· exact Upd.here); (· exact hs1); (· exact rfl); (· exact rfl); intro H1 hB)
        | (apply bx_store; (· exact rfl); (· exact rfl); (· exact rfl); (· assumption); (· exact Upd.here); (· exact hs2); (· exact rfl); (· exact rfl); intro H1 hB)
        | (apply op_told; (· exact rfl); (· exact congrArg (DV.int _) hw1))
        | (apply op_told; (· exact rfl); (· exact congrArg (DV.int _) hw2))
        | (apply op_at; (· exact rfl))
        | (apply dwp_cond_t; (· exact rfl); (· (first | with_reducible assumption | with_reducible rfl | decide)))
        | apply dwp_block
        | apply dwp_skip
        | fail)
      refine ⟨⟨_, rt2, (cur.set i y).set (orig.length - 1 - i) x, i + 1, junk_facts ⟨hB, htk2, hrt2, g1, by omega, g2⟩ rfl rfl⟩, ?_⟩
      show orig.length - ((i + 1 : Nat) : Int).toNat < orig.length - (i : Int).toNat
      omega
    · have hc2 : decide ((i : Int) < ((orig.length - 1 - i : Nat) : Int)) = false := by simp; omega
      have hdone := rev_done hcl hcur (by omega)
      rw [hrev] at hdone
      have o4 : Own1 1 (rowsB cur) (.sl (some (bq, 0, 1)) (rowsB cur).length rs.length eq) [(bq, .rows false 1 rt)] := .at hrt.symm (by rw [rowsB_len, hcl]; exact hrl) (by rw [rowsB_len, hcl]; exact htk)
      have hlr : (rowsB orig).length = (rowsB cur).length := by rw [rowsB_len, rowsB_len, hcl]
      rw [hlr]
      have hB : Bx A H1 ([(bq, .rows false 1 rt)] ++ bs) fs := hB
      repeat' (first
        | dsimp only [putD, DV.cells, DH.new_next, DH.set_next, List.length_cons, List.length_nil, Nat.reduceAdd, List.set_cons_zero, List.set_cons_succ, getD_zero, getD_succ, fieldAt_zero, fieldAt_succ, thenD, blockD, retR]
        | apply dwp_seq
        | apply dwp_region
        | apply ops_nil
        | (apply ops_plain; (· exact rfl))
        | (apply op_str_own; (· exact rfl); (· exact rfl); (· exact rfl); (· exact rfl); (· exact rfl); (· exact o4); (· assumption); (· exact Ctx.here))
        | (apply op_at; (· exact rfl))
        | (apply dwp_cond_f; (· exact rfl); (· (first | with_reducible assumption | with_reducible rfl | decide)))
        | apply dwp_ret
        | apply dwp_exit
        | (refine ⟨_, rfl, ?_⟩)
        | fail)
      rw [hdone]
      exact hK _ hB.drop1
  · have hc : decide ((m : Int) > 9) = true := by simp; omega
    have hm10 : m % 10 < 10 := Nat.mod_lt _ (by decide)
    have hrem : (m : Int).tmod 10 = ((m % 10 : Nat) : Int) := by rw [Int.tmod_eq_emod_of_nonneg (by omega)]; omega
    have hquo : IntKind.i64.wrap ((m : Int).tdiv 10) = ((m / 10 : Nat) : Int) := by rw [Int.tdiv_eq_ediv_of_nonneg (by omega), wrapI (by omega)]; omega
    have hu1 : IntKind.u8.wrap ((m % 10 : Nat) : Int) = ((m % 10 : Nat) : Int) := wrapB (by omega)
    have hu2 : IntKind.u8.wrap (48 + ((m % 10 : Nat) : Int)) = ((UInt8.ofNat (48 + m % 10)).toNat : Int) := by rw [(ofNat_dig hm10).1, wrapB (by omega)]; omega
    have hrows : rowsB (b ++ [UInt8.ofNat (48 + m % 10)]) = rowsB b ++ [[.int .u8 ((UInt8.ofNat (48 + m % 10)).toNat : Int)]] := by simp [rowsB]
    repeat' (first
      | dsimp only [putD, DV.cells, DH.new_next, DH.set_next, List.length_cons, List.length_nil, Nat.reduceAdd, List.set_cons_zero, List.set_cons_succ, getD_zero, getD_succ, fieldAt_zero, fieldAt_succ, thenD, blockD, retR]
      | apply dwp_seq
      | apply dwp_region
      | apply ops_nil
      | (apply ops_plain; (· exact rfl))
      | (apply op_at; (· exact opD_rem rfl rfl rfl (by decide) hrem))
      | (apply op_at; (· exact opD_quo rfl rfl rfl (by decide) hquo))
      | (apply op_told; (· exact rfl); (· exact congrArg (DV.int _) hu1))
      | (apply op_told; (· exact rfl); (· exact congrArg (DV.int _) hu2))
      | (apply bx_build1 et68; (· exact rfl); (· exact rfl); (· exact rfl); (· exact rfl); (· exact rfl); (· decide); (· assumption); intro bn H1 hB)
      | (apply op_append_s; (· exact rfl); (· exact rfl); (· exact rfl); (· exact rfl); (· exact et68); (· exact o3); (· assumption); (· (repeat (first | with_reducible exact Ctx.here | with_reducible apply Ctx.cons | with_reducible apply Ctx.app))); (· exact At.here); (· exact rfl); (· exact rfl); (· assumption); intro t3 y3 H1 q3 hB)
      | (apply op_at; (· exact rfl))
      | (apply dwp_cond_t; (· exact rfl); (· (first | with_reducible assumption | with_reducible rfl | decide)))
      | apply dwp_block
      | apply dwp_skip
      | fail)
    refine ⟨⟨t3, y3, b ++ [UInt8.ofNat (48 + m % 10)], _, m / 10, junk_facts ⟨by rw [hrows]; exact q3, (hB.sub (by (repeat (first | exact List.Sublist.refl _ | exact List.nil_sublist _ | apply List.Sublist.cons_cons | apply List.Sublist.cons | apply List.Sublist.append_left | refine List.Sublist.trans ?_ (List.sublist_append_right _ _))))), by omega, by rw [hdec, decN_ge h9]; simp⟩ rfl rfl⟩, ?_⟩
    show ((m / 10 : Nat) : Int).toNat < (m : Int).toNat
    omega
theorem dec59 {n : Int} (hn : -1000000000000000000 < n ∧ n < 1000000000000000000) (hB : Bx A H bs fs) (hK : ∀ H', Bx A H' bs fs → K (.str (decF n)) H') : CallWp Tryd.prog X3 59 [.int .i64 n] H K := by
  unfold decF at hK
  by_cases h0 : n < 0
  · rw [if_pos h0] at hK
    have hc : decide (n < 0) = true := by simpa using h0
    have hneg : IntKind.i64.wrap (0 - n) = (n.natAbs : Int) := by rw [wrapI (by omega)]; omega
    have hm : n.natAbs < 1000000000000000000 := by omega
    have hl : 1 + (decN n.natAbs).length ≤ 4294967296 := by have := decN_len 17 n.natAbs (by omega); omega
    refine enter rfl Tryd.func59 rfl Tryd.ntmps59 rfl ?_
    dsimp only [List.cons_append, List.nil_append, List.length_cons, List.length_nil, List.replicate_succ, List.replicate_zero, Nat.reduceAdd, Nat.reduceSub]
    repeat' (first
      | dsimp only [putD, DV.cells, DH.new_next, DH.set_next, List.length_cons, List.length_nil, Nat.reduceAdd, List.set_cons_zero, List.set_cons_succ, getD_zero, getD_succ, fieldAt_zero, fieldAt_succ, thenD, blockD, retR]
      | apply dwp_seq
      | apply dwp_region
      | apply ops_nil
      | (apply ops_plain; (· exact rfl))
      | (apply op_call; (· exact rfl); (· exact rfl); (· exact rfl); (apply dec59p (m0 := n.natAbs); (· exact hm); (· assumption); intro H1 hB))
      | (apply op_told; (· exact rfl); (· exact congrArg (DV.int _) hneg))
      | (apply op_at; (· exact opD_strAdd' rfl rfl rfl hl))
      | (apply op_at; (· exact rfl))
      | (apply dwp_cond_t; (· exact rfl); (· (first | with_reducible assumption | with_reducible rfl | decide)))
      | apply dwp_ret
      | (refine ⟨_, rfl, ?_⟩)
      | fail)
    exact hK _ hB
  · rw [if_neg h0] at hK
    have e : n = (n.natAbs : Int) := by omega
    rw [e]
    exact dec59p (m0 := n.natAbs) (by omega) hB hK
end
end Go.Det.C

/- Pieces are cut; numbers. -/
namespace Go.Det.C
open Go Go.Det Go.Proofs
set_option maxRecDepth 4000
set_option linter.unusedVariables false
set_option linter.unusedSimpArgs false
/-- A piece's rune. -/
def pieceB (c : UInt8) : Prop := (isLet (c.toNat : Int) = true ∨ isDgt (c.toNat : Int) = true)
theorem pieceB_range {c : UInt8} (h : pieceB c) : c.toNat < 128 ∧ 48 ≤ c.toNat := by
  unfold pieceB isLet isDgt at h
  simp only [Bool.and_eq_true, decide_eq_true_eq] at h
  omega
theorem dig_piece {c : UInt8} (h : isDig c = true) : pieceB c := by
  right
  unfold isDgt
  have := isDig_range h
  simp only [Bool.and_eq_true, decide_eq_true_eq]
  exact this
theorem step_piece {c : Cu} {p : Int × Int} {x : UInt8} (h : pieceB x) (hr : c.remark = false) : stepR c p ((x.toNat : Int), false) = { c with at' := if c.piece = [] then p else c.at', piece := c.piece ++ [x] } := by
  have e : UInt8.ofNat ((x.toNat : Int)).toNat = x := by rw [Int.toNat_natCast]; exact UInt8.ofNat_toNat
  obtain ⟨toks, places, piece, a, rem, w, ee⟩ := c
  simp only at hr
  subst hr
  unfold stepR Cu.take
  simp only [Bool.false_eq_true, false_and, if_false]
  rw [if_pos (show isLet (x.toNat : Int) = true ∨ isDgt (x.toNat : Int) = true from h), e]
/-- What a piece is made of is taken to it. -/
theorem go_piece (m : List UInt8) : ∀ (v : List UInt8) (c : Cu) (p : Int × Int), (∀ x ∈ v, pieceB x) → c.remark = false → c.e = 0 → c.piece ≠ [] → ∃ p', goR (runes (v ++ m)) c p = goR (runes m) { c with piece := c.piece ++ v } p' := by
  intro v
  induction v with
  | nil => intro c p _ _ _ _; exact ⟨p, by rw [List.nil_append, List.append_nil]⟩
  | cons x v ih =>
    intro c p h hr he hp
    have hx := h x List.mem_cons_self
    rw [List.cons_append, runes_ascii (pieceB_range hx).1, goR_cons, step_piece hx hr, if_neg hp, if_pos he]
    obtain ⟨p', hp'⟩ := ih { c with piece := c.piece ++ [x] } (nextP p (x.toNat : Int)) (fun y hy => h y (List.mem_cons_of_mem _ hy)) hr he (by simp)
    refine ⟨p', ?_⟩
    rw [hp']
    simp
/-- A piece: letters and digits, perhaps with a - ahead. -/
def Piece (w : List UInt8) : Prop := ∃ b v, w = (if b = true then 45 :: v else v) ∧ (∀ x ∈ v, pieceB x) ∧ w ≠ []
theorem go_word {w m : List UInt8} (h : Piece w) {c : Cu} (p : Int × Int) (hr : c.remark = false) (he : c.e = 0) (hp : c.piece = []) : ∃ p', goR (runes (w ++ m)) c p = goR (runes m) { c with piece := w, at' := p } p' := by
  obtain ⟨b, v, rfl, hv, hne⟩ := h
  cases b with
  | true =>
    simp only [if_true] at hne ⊢
    have hst : stepR c p (((45 : UInt8).toNat : Int), false) = { c with piece := [45], at' := p } := by
      obtain ⟨toks, places, piece, a, rem, w, ee⟩ := c
      simp only at hr hp
      subst hr hp
      unfold stepR Cu.take
      simp only [Bool.false_eq_true, false_and, if_false]
      rw [if_neg (by decide), if_neg (by decide), if_neg (by decide), if_neg (by decide), if_pos (by decide)]
      rfl
    rw [List.cons_append, runes_ascii (by decide), goR_cons, hst, if_pos he]
    obtain ⟨p', hp'⟩ := go_piece m v { c with piece := [45], at' := p } (nextP p ((45 : UInt8).toNat : Int)) hv hr he (by simp)
    exact ⟨p', hp'⟩
  | false =>
    simp only [Bool.false_eq_true, if_false] at hne ⊢
    match v, hv, hne with
    | x :: v, hv, _ =>
      have hx := hv x List.mem_cons_self
      rw [List.cons_append, runes_ascii (pieceB_range hx).1, goR_cons, step_piece hx hr, if_pos hp, if_pos he]
      obtain ⟨p', hp'⟩ := go_piece m v { c with piece := c.piece ++ [x], at' := p } (nextP p (x.toNat : Int)) (fun y hy => hv y (List.mem_cons_of_mem _ hy)) hr he (by simp)
      refine ⟨p', ?_⟩
      rw [hp', hp]
      rfl
/-- A space ends a piece. -/
theorem step_space {c : Cu} {p : Int × Int} (hr : c.remark = false) : stepR c p (((32 : UInt8).toNat : Int), false) = c.fin := by
  obtain ⟨toks, places, piece, a, rem, w, ee⟩ := c
  simp only at hr
  subst hr
  unfold stepR Cu.take
  simp only [Bool.false_eq_true, false_and, if_false]
  rw [if_neg (by decide), if_pos (by decide)]
theorem go_space {m : List UInt8} {c : Cu} {p : Int × Int} (hr : c.remark = false) (he : c.fin.e = 0) : ∃ p', goR (runes (32 :: m)) c p = goR (runes m) c.fin p' := by
  rw [runes_ascii (by decide), goR_cons, step_space hr, if_pos he]
  exact ⟨_, rfl⟩
/-- A sign. -/
theorem go_sign {m : List UInt8} {x : UInt8} (hx : x = 59 ∨ x = 123 ∨ x = 125) {c : Cu} {p : Int × Int} (hr : c.remark = false) (he : c.fin.e = 0) : ∃ p', goR (runes (x :: m)) c p = goR (runes m) (c.fin.add ⟨3, [x], 0, false⟩ p) p' := by
  have hst : stepR c p ((x.toNat : Int), false) = c.fin.add ⟨3, [x], 0, false⟩ p := by
    obtain ⟨toks, places, piece, a, rem, w, ee⟩ := c
    simp only at hr
    subst hr
    have hq : (x.toNat : Int) = 59 ∨ (x.toNat : Int) = 123 ∨ (x.toNat : Int) = 125 := by rcases hx with rfl | rfl | rfl <;> decide
    have e : UInt8.ofNat ((x.toNat : Int)).toNat = x := by rw [Int.toNat_natCast]; exact UInt8.ofNat_toNat
    unfold stepR Cu.take
    simp only [Bool.false_eq_true, false_and, if_false]
    rw [if_neg (by unfold isLet isDgt; simp only [Bool.and_eq_true, decide_eq_true_eq]; omega), if_neg (by omega), if_neg (by omega), if_pos hq, e]
  rw [runes_ascii (by rcases hx with rfl | rfl | rfl <;> decide), goR_cons, hst, if_pos (show (c.fin.add ⟨3, [x], 0, false⟩ p).e = 0 from he)]
  exact ⟨_, rfl⟩
/-! ### numbers -/
theorem takeWhile_app {d u : List UInt8} (hd : ∀ c ∈ d, isDig c = true) (hu : ∀ c t, u = c :: t → isDig c = false) : (d ++ u).takeWhile isDig = d ∧ (d ++ u).dropWhile isDig = u := by
  induction d with
  | nil =>
    cases u with
    | nil => exact ⟨rfl, rfl⟩
    | cons c t =>
      have := hu c t rfl
      simp [this]
  | cons x d ih =>
    have hx := hd x List.mem_cons_self
    obtain ⟨h1, h2⟩ := ih (fun c hc => hd c (List.mem_cons_of_mem _ hc))
    simp [hx, h1, h2]
theorem cutP_num (b : Bool) {r : List UInt8} (h : ∀ c t, r = c :: t → c ≠ 45) : cutP (if b = true then 45 :: r else r) [45] = r ∧ [45].isPrefixOf (if b = true then 45 :: r else r) = b := by
  cases b with
  | true => exact ⟨by simp [cutP], by simp [List.isPrefixOf]⟩
  | false =>
    simp only [Bool.false_eq_true, if_false]
    cases r with
    | nil => exact ⟨by simp [cutP, List.isPrefixOf], by simp [List.isPrefixOf]⟩
    | cons c t =>
      have hc := h c t rfl
      have hp : [45].isPrefixOf (c :: t) = false := by
        simp [List.isPrefixOf]
        exact fun h => hc h.symm
      exact ⟨by unfold cutP; rw [hp]; rfl, hp⟩
theorem dig_head {d u : List UInt8} (hd : ∀ c ∈ d, isDig c = true) (hne : d ≠ []) : ∀ c t, d ++ u = c :: t → c ≠ 45 := by
  intro c t h
  match d, hne with
  | x :: d, _ =>
    have := isDig_range (hd x List.mem_cons_self)
    rw [List.cons_append] at h
    cases h
    intro e
    subst e
    have h3 : (45 : UInt8).toNat = 45 := rfl
    omega
theorem numF_int (b : Bool) {d : List UInt8} (hd : ∀ c ∈ d, isDig c = true) (hne : d ≠ []) (hl : d.length ≤ 18) : numF (if b = true then 45 :: d else d) = ⟨if b = true then - digVal d else digVal d, false, 0⟩ := by
  have hh := dig_head (u := []) hd hne
  rw [List.append_nil] at hh
  obtain ⟨h1, h2⟩ := cutP_num b hh
  obtain ⟨h3, h4⟩ := takeWhile_app (u := []) hd (fun c t h => by cases h)
  rw [List.append_nil] at h3 h4
  unfold numF numG
  rw [h1, h2, h3, h4, if_neg hne, if_neg (fun h => h.1 rfl), if_neg (by omega), if_neg (fun h => h rfl)]
theorem unitF_head {u : List UInt8} {ps : Int} (h : unitF u = some ps) : u ≠ [] ∧ (∀ c t, u = c :: t → isDig c = false) ∧ (∀ x ∈ u, pieceB x) ∧ u.length ≤ 2 := by
  unfold unitF at h
  have key : u = [115] ∨ u = [109, 115] ∨ u = [117, 115] ∨ u = [110, 115] ∨ u = [112, 115] := by
    (repeat' split at h) <;> simp_all
  rcases key with rfl | rfl | rfl | rfl | rfl
  all_goals refine ⟨by simp, fun c t h => ?_, fun x hx => ?_, by simp⟩
  all_goals first
    | (cases h; rfl)
    | (simp only [List.mem_cons, List.not_mem_nil, or_false] at hx; left; rcases hx with rfl | rfl <;> rfl)
    | (simp only [List.mem_cons, List.not_mem_nil, or_false] at hx; left; rcases hx with rfl; rfl)
theorem numF_time (b : Bool) {d u : List UInt8} {ps : Int} (hd : ∀ c ∈ d, isDig c = true) (hne : d ≠ []) (hl : d.length ≤ 18) (hps : unitF u = some ps) (hmax : digVal d * ps < 1000000000000000000) : numF (if b = true then 45 :: (d ++ u) else d ++ u) = ⟨(if b = true then - digVal d else digVal d) * ps, true, 0⟩ := by
  obtain ⟨hu0, hu1, _, hu2⟩ := unitF_head hps
  obtain ⟨h1, h2⟩ := cutP_num b (dig_head (u := u) hd hne)
  obtain ⟨h3, h4⟩ := takeWhile_app hd hu1
  have hr := readF_exact (b := b) (r := d ++ u) rfl hne hd hu1 hps (by omega) (by rw [List.length_append]; omega)
  have h0 := (digVal_bound d hd).1
  have hpr := unitF_range hps
  have hge : 0 ≤ digVal d * ps := Int.mul_nonneg h0 (by omega)
  have hab : -1000000000000000000 < (if b = true then - digVal d else digVal d) * ps ∧ (if b = true then - digVal d else digVal d) * ps < 1000000000000000000 := by
    cases b
    · simp only [Bool.false_eq_true, if_false]; omega
    · simp only [if_true, Int.neg_mul]; omega
  obtain ⟨v, hv⟩ : ∃ v, (if b = true then - digVal d else digVal d) * ps = v := ⟨_, rfl⟩
  rw [hv] at hr hab ⊢
  unfold numF numG
  rw [h1, h2, h3, h4, if_neg hne, if_neg (fun h => by rw [hps] at h; exact absurd h.2 (by simp)), if_neg (by omega), if_pos hu0, hr]
  simp only
  rw [if_neg (by omega)]
theorem fin_num {c : Cu} {w : List UInt8} {n : Int} {t : Bool} (hw : c.piece = w) (hne : w ≠ []) (hl : isLet ((w.headD 0).toNat : Int) = false) (hn : numF w = ⟨n, t, 0⟩) : c.fin = { c with toks := c.toks ++ [⟨2, w, n, t⟩], places := c.places ++ [c.at'], piece := [] } := by
  unfold Cu.fin
  rw [hw, if_neg hne, if_pos hl, hn]
  rfl
theorem num_head (b : Bool) {d u : List UInt8} (hd : ∀ c ∈ d, isDig c = true) (hne : d ≠ []) : isLet (((if b = true then 45 :: (d ++ u) else d ++ u).headD 0).toNat : Int) = false ∧ (if b = true then 45 :: (d ++ u) else d ++ u) ≠ [] := by
  cases b with
  | true => exact ⟨rfl, by simp⟩
  | false =>
    match d, hne with
    | x :: d, _ =>
      refine ⟨?_, by simp⟩
      have := isDig_range (hd x List.mem_cons_self)
      simp only [Bool.false_eq_true, if_false, List.cons_append, List.headD_cons]
      unfold isLet
      simp
      omega
theorem num_piece (b : Bool) {d u : List UInt8} (hd : ∀ c ∈ d, isDig c = true) (hne : d ≠ []) (hu : ∀ x ∈ u, pieceB x) : Piece (if b = true then 45 :: (d ++ u) else d ++ u) := by
  refine ⟨b, d ++ u, rfl, ?_, (num_head b hd hne).2⟩
  intro x hx
  rcases List.mem_append.mp hx with hx | hx
  · exact dig_piece (hd x hx)
  · exact hu x hx
theorem decF_eq (n : Int) : decF n = (if decide (n < 0) = true then 45 :: (decN n.natAbs ++ []) else decN n.natAbs ++ []) := by
  unfold decF
  rw [List.append_nil]
  by_cases h : n < 0
  · rw [if_pos h, if_pos (by simpa using h)]
  · rw [if_neg h, if_neg (by simpa using h)]
theorem numF_dec {n : Int} (h : -1000000000000000000 < n ∧ n < 1000000000000000000) : numF (decF n) = ⟨n, false, 0⟩ := by
  have h1 := numF_int (decide (n < 0)) (decN_dig _ _ (Nat.le_refl n.natAbs)) (decN_ne _) (decN_len 17 n.natAbs (by omega))
  rw [decF_eq, List.append_nil, h1, decN_val _ _ (Nat.le_refl _)]
  congr 1
  by_cases h : n < 0
  · rw [if_pos (by simpa using h)]; omega
  · rw [if_neg (by simpa using h)]; omega
end Go.Det.C

/- few; the reference's Same. -/
namespace Go.Det.C
open Go Go.Det Go.Proofs
set_option maxRecDepth 4000
set_option maxHeartbeats 4000000
set_option linter.unusedVariables false
set_option linter.unusedSimpArgs false
def few (n : Nat) : Bool := decide (n ≤ 3000) || (decide (65536 < n) && decide (n < 131072))
theorem few23 (s : List UInt8) (H : DH) : CallWp Tryd.prog X3 23 [.str s, .sl none 0 0 true] H (fun r H' => r = .bool (few s.length) ∧ H' = H) := by
  unfold few
  cases h1 : decide ((s.length : Int) ≤ 3000) with
  | true =>
    have e1 : decide (s.length ≤ 3000) = true := by simp at h1 ⊢; omega
    refine enter rfl Tryd.func23 rfl Tryd.ntmps23 rfl ?_
    dsimp only [List.cons_append, List.nil_append, List.length_cons, List.length_nil, List.replicate_succ, List.replicate_zero, Nat.reduceAdd, Nat.reduceSub]
    repeat' (first
      | dsimp only [putD, DV.cells, DH.new_next, DH.set_next, List.length_cons, List.length_nil, Nat.reduceAdd, List.set_cons_zero, List.set_cons_succ, getD_zero, getD_succ, fieldAt_zero, fieldAt_succ, thenD, blockD, retR]
      | refine dwp_round ?_
      | apply dwp_seq
      | apply dwp_region
      | apply ops_nil
      | (apply ops_plain; (· exact rfl))
      | (apply ops_on; (· exact rfl); (· exact rfl); (· (first | with_reducible assumption | with_reducible rfl | decide)))
      | (apply ops_off0; (· exact rfl); (· exact rfl); (· (first | with_reducible assumption | with_reducible rfl | decide)))
      | (apply ops_offn; (· exact rfl); (· exact rfl))
      | (apply op_pick_t; (· exact rfl); (· exact rfl); (· (first | with_reducible assumption | with_reducible rfl | decide)); (· exact rfl))
      | (apply op_at; (· exact rfl))
      | (apply dwp_cond_f; (· exact rfl); (· (first | with_reducible assumption | with_reducible rfl | decide)))
      | apply dwp_block
      | apply dwp_ret
      | apply dwp_exit
      | (refine ⟨_, rfl, ?_⟩)
      | fail)
    rw [e1]; exact ⟨rfl, rfl⟩
  | false =>
    have e1 : decide (s.length ≤ 3000) = false := by simp at h1 ⊢; omega
    cases h2 : decide ((s.length : Int) > 65536) with
    | true =>
      have e2 : decide (65536 < s.length) = true := by simp at h2 ⊢; omega
      cases h3 : decide ((s.length : Int) < 131072) with
      | true =>
        have e3 : decide (s.length < 131072) = true := by simp at h3 ⊢; omega
        refine enter rfl Tryd.func23 rfl Tryd.ntmps23 rfl ?_
        dsimp only [List.cons_append, List.nil_append, List.length_cons, List.length_nil, List.replicate_succ, List.replicate_zero, Nat.reduceAdd, Nat.reduceSub]
        repeat' (first
          | dsimp only [putD, DV.cells, DH.new_next, DH.set_next, List.length_cons, List.length_nil, Nat.reduceAdd, List.set_cons_zero, List.set_cons_succ, getD_zero, getD_succ, fieldAt_zero, fieldAt_succ, thenD, blockD, retR]
          | refine dwp_round ?_
          | apply dwp_seq
          | apply dwp_region
          | apply ops_nil
          | (apply ops_plain; (· exact rfl))
          | (apply ops_on; (· exact rfl); (· exact rfl); (· (first | with_reducible assumption | with_reducible rfl | decide)))
          | (apply op_pick_t; (· exact rfl); (· exact rfl); (· (first | with_reducible assumption | with_reducible rfl | decide)); (· exact rfl))
          | (apply op_pick_f; (· exact rfl); (· exact rfl); (· (first | with_reducible assumption | with_reducible rfl | decide)); (· exact rfl))
          | (apply op_at; (· exact rfl))
          | (apply dwp_cond_f; (· exact rfl); (· (first | with_reducible assumption | with_reducible rfl | decide)))
          | apply dwp_block
          | apply dwp_ret
          | apply dwp_exit
          | (refine ⟨_, rfl, ?_⟩)
          | fail)
        rw [e1, e2, e3]; exact ⟨rfl, rfl⟩
      | false =>
        have e3 : decide (s.length < 131072) = false := by simp at h3 ⊢; omega
        refine enter rfl Tryd.func23 rfl Tryd.ntmps23 rfl ?_
        dsimp only [List.cons_append, List.nil_append, List.length_cons, List.length_nil, List.replicate_succ, List.replicate_zero, Nat.reduceAdd, Nat.reduceSub]
        repeat' (first
          | dsimp only [putD, DV.cells, DH.new_next, DH.set_next, List.length_cons, List.length_nil, Nat.reduceAdd, List.set_cons_zero, List.set_cons_succ, getD_zero, getD_succ, fieldAt_zero, fieldAt_succ, thenD, blockD, retR]
          | refine dwp_round ?_
          | apply dwp_seq
          | apply dwp_region
          | apply ops_nil
          | (apply ops_plain; (· exact rfl))
          | (apply ops_on; (· exact rfl); (· exact rfl); (· (first | with_reducible assumption | with_reducible rfl | decide)))
          | (apply ops_off1; (· exact rfl); (· exact rfl); (· (first | with_reducible assumption | with_reducible rfl | decide)))
          | (apply op_pick_t; (· exact rfl); (· exact rfl); (· (first | with_reducible assumption | with_reducible rfl | decide)); (· exact rfl))
          | (apply op_pick_f; (· exact rfl); (· exact rfl); (· (first | with_reducible assumption | with_reducible rfl | decide)); (· exact rfl))
          | (apply op_at; (· exact rfl))
          | (apply dwp_cond_f; (· exact rfl); (· (first | with_reducible assumption | with_reducible rfl | decide)))
          | apply dwp_block
          | apply dwp_ret
          | apply dwp_exit
          | (refine ⟨_, rfl, ?_⟩)
          | fail)
        rw [e1, e2, e3]; exact ⟨rfl, rfl⟩
    | false =>
      have e2 : decide (65536 < s.length) = false := by simp at h2 ⊢; omega
      refine enter rfl Tryd.func23 rfl Tryd.ntmps23 rfl ?_
      dsimp only [List.cons_append, List.nil_append, List.length_cons, List.length_nil, List.replicate_succ, List.replicate_zero, Nat.reduceAdd, Nat.reduceSub]
      repeat' (first
        | dsimp only [putD, DV.cells, DH.new_next, DH.set_next, List.length_cons, List.length_nil, Nat.reduceAdd, List.set_cons_zero, List.set_cons_succ, getD_zero, getD_succ, fieldAt_zero, fieldAt_succ, thenD, blockD, retR]
        | refine dwp_round ?_
        | apply dwp_seq
        | apply dwp_region
        | apply ops_nil
        | (apply ops_plain; (· exact rfl))
        | (apply ops_on; (· exact rfl); (· exact rfl); (· (first | with_reducible assumption | with_reducible rfl | decide)))
        | (apply ops_off1; (· exact rfl); (· exact rfl); (· (first | with_reducible assumption | with_reducible rfl | decide)))
        | (apply op_pick_f; (· exact rfl); (· exact rfl); (· (first | with_reducible assumption | with_reducible rfl | decide)); (· exact rfl))
        | (apply op_at; (· exact rfl))
        | (apply dwp_cond_f; (· exact rfl); (· (first | with_reducible assumption | with_reducible rfl | decide)))
        | apply dwp_block
        | apply dwp_ret
        | apply dwp_exit
        | (refine ⟨_, rfl, ?_⟩)
        | fail)
      rw [e1, e2]; exact ⟨rfl, rfl⟩
end Go.Det.C
