/- The cutter: a rune is taken; the place behind it. -/
import Derived.Test.YtlmjhpnmfmnmgaaDoorLexP8
namespace Go.Det.C
open Go Go.Det Go.Proofs
set_option maxRecDepth 4000
set_option maxHeartbeats 4000000
set_option linter.unusedVariables false
set_option linter.unusedSimpArgs false
noncomputable def Cu.take (c : Cu) (p : Int × Int) (r : Int) : Cu :=
  if c.remark = true ∧ r ≠ 10 then c
  else if isLet r = true ∨ isDgt r = true then { c with remark := false, at' := if c.piece = [] then p else c.at', piece := c.piece ++ [UInt8.ofNat r.toNat] }
  else let c1 := Cu.fin { c with remark := false }
    if r = 32 ∨ r = 9 ∨ r = 10 then c1
    else if r = 35 then { c1 with remark := true }
    else if r = 59 ∨ r = 123 ∨ r = 125 then c1.add ⟨3, [UInt8.ofNat r.toNat], 0, false⟩ p
    else if r = 45 then { c1 with piece := c1.piece ++ [45], at' := p }
    else c1.fail p 4
def nextP (p : Int × Int) (r : Int) : Int × Int := if r = 10 then (p.1 + 1, 1) else (p.1, p.2 + 1)
theorem fail_same (c : Cu) (p : Int × Int) (e : Int) : (c.fail p e).toks = c.toks ∧ (c.fail p e).places = c.places ∧ (c.fail p e).piece = c.piece ∧ (c.fail p e).remark = c.remark := by
  unfold Cu.fail; split <;> exact ⟨rfl, rfl, rfl, rfl⟩
theorem fin_len (c : Cu) : c.fin.toks.length ≤ c.toks.length + 1 ∧ c.fin.places.length ≤ c.places.length + 1 ∧ c.fin.piece = [] ∧ c.fin.remark = c.remark := by
  unfold Cu.fin
  split
  · exact ⟨Nat.le_succ _, Nat.le_succ _, rfl, rfl⟩
  · split
    · have h : ∀ d : Cu, d.toks = c.toks → d.places = c.places → d.piece = [] → d.remark = c.remark → ∀ t p, (d.add t p).toks.length ≤ c.toks.length + 1 ∧ (d.add t p).places.length ≤ c.places.length + 1 ∧ (d.add t p).piece = [] ∧ (d.add t p).remark = c.remark := by
        intro d h1 h2 h3 h4 t p
        unfold Cu.add
        simp [h1, h2, h3, h4]
      split
      · exact h c.cut rfl rfl rfl rfl _ _
      · obtain ⟨k1, k2, k3, k4⟩ := fail_same c.cut c.at' (numF c.piece).e
        exact h _ k1 k2 k3 k4 _ _
    · split
      · obtain ⟨k1, k2, k3, k4⟩ := fail_same c.cut c.at' 6
        rw [k1, k2, k3, k4]
        exact ⟨Nat.le_succ _, Nat.le_succ _, rfl, rfl⟩
      · unfold Cu.add Cu.cut
        simp
theorem own_len {z : Nat} {R : List (List DV)} {s : Sv} {bx : List (Nat × DObj)} (h : Own1 z R s.dv bx) : s.n = R.length := by
  obtain ⟨p, n, c, ex⟩ := s
  unfold Sv.dv at h
  dsimp only at h ⊢
  generalize hd : DV.sl p n c ex = d at h
  cases h with
  | nil h => cases hd; subst h; rfl
  | «at» h1 h2 h3 => cases hd; rfl
section
variable {A H : DH} {bc : Nat} {c : Cu} {rest : List (Nat × DObj)} {fs : List (DH → Prop)} {K : DV → DH → Prop}
theorem take56 {p1 p2 r : Int} (hr : 0 ≤ r) (h1 : c.toks.length + 1 ≤ 900000) (h2 : c.places.length + 1 ≤ 900000) (h3 : c.piece.length ≤ 65536) (hR : Rep A H bc c rest fs) (hk : ∀ r' H', Rep A H' bc (c.take (p1, p2) r) rest fs → K r' H') : CallWp Tryd.prog X3 56 [.ptr (some (bc, 0, 0)), .agg [.int .i64 p1, .int .i64 p2], .int .i32 r] H K := by
  obtain ⟨toks, places, piece, ⟨a1, a2⟩, remark, ⟨w1, w2⟩, e⟩ := c
  obtain ⟨s1, s2, s3, x1, x2, x3, o1, o2, o3, hB⟩ := hR.ex
  dsimp only at h1 h2 h3 hk o1 o2 o3 hB
  by_cases hA : remark = true ∧ r ≠ 10
  · obtain ⟨rfl, hA2⟩ := hA
    have hA3 : (r != 10) = true := by simpa using hA2
    have ef : Cu.take ⟨toks, places, piece, (a1, a2), true, (w1, w2), e⟩ (p1, p2) r = ⟨toks, places, piece, (a1, a2), true, (w1, w2), e⟩ := by unfold Cu.take; rw [if_pos ⟨rfl, hA2⟩]
    rw [ef] at hk
    refine enter rfl Tryd.func56 rfl Tryd.ntmps56 rfl ?_
    dsimp only [List.cons_append, List.nil_append, List.length_cons, List.length_nil, List.replicate_succ, List.replicate_zero, Nat.reduceAdd, Nat.reduceSub]
    repeat' (first
      | dsimp only [putD, DV.cells, DH.new_next, DH.set_next, List.length_cons, List.length_nil, Nat.reduceAdd, List.set_cons_zero, List.set_cons_succ, getD_zero, getD_succ, fieldAt_zero, fieldAt_succ, thenD, blockD, retR]
      | apply dwp_seq
      | apply dwp_region
      | apply ops_nil
      | (apply ops_plain; (· exact rfl))
      | (apply ops_on; (· exact rfl); (· exact rfl); (· (first | with_reducible assumption | with_reducible rfl | decide)))
      | (apply op_pick_t; (· exact rfl); (· exact rfl); (· (first | with_reducible assumption | with_reducible rfl | decide)); (· exact rfl))
      | (apply bx_load0; (· exact rfl); (· exact rfl); (· assumption); (· (repeat (first | with_reducible exact At.here | with_reducible apply At.there | with_reducible apply at_app))); (· (first | exact part57 _ _ _ _ | exact part49 _ _ | exact part49a _ _ _ _ _ _ _ _ _ | exact part49w _ _ _ _ _ _ _ _ _ | exact rfl)))
      | (apply bx_store1; (· exact rfl); (· exact rfl); (· exact rfl); (· assumption); (· (first | (dsimp only [putD, DV.cells, DH.new_next, DH.set_next, List.length_cons, List.length_nil, Nat.reduceAdd, List.set_cons_zero, List.set_cons_succ, getD_zero, getD_succ, fieldAt_zero, fieldAt_succ, thenD, blockD, retR, Sv.cells]; done) | (dsimp only [putD, DV.cells, DH.new_next, DH.set_next, List.length_cons, List.length_nil, Nat.reduceAdd, List.set_cons_zero, List.set_cons_succ, getD_zero, getD_succ, fieldAt_zero, fieldAt_succ, thenD, blockD, retR, Sv.cells]; exact rfl) | exact rfl)); (· (repeat (first | with_reducible exact At.here | with_reducible apply At.there | with_reducible apply at_app))); (· (first | (dsimp only [splice, List.take_zero, List.take_succ_cons, List.length_cons, List.length_nil, Nat.reduceAdd, Nat.zero_add, List.drop_zero, List.drop_succ_cons, List.drop_nil, List.nil_append, List.cons_append, List.append_nil, List.take_nil]; done) | (dsimp only [splice, List.take_zero, List.take_succ_cons, List.length_cons, List.length_nil, Nat.reduceAdd, Nat.zero_add, List.drop_zero, List.drop_succ_cons, List.drop_nil, List.nil_append, List.cons_append, List.append_nil, List.take_nil]; exact rfl) | exact rfl)); (· (repeat (first | with_reducible exact Upd.here | with_reducible apply Upd.there))); (· exact Nat.le_of_ble_eq_true rfl); (· exact rfl); (· exact rfl); (· exact rfl); intro H1 hB)
      | (apply bx_box; (· exact rfl); (· exact rfl); (· (first | (dsimp only [putD, DV.cells, DH.new_next, DH.set_next, List.length_cons, List.length_nil, Nat.reduceAdd, List.set_cons_zero, List.set_cons_succ, getD_zero, getD_succ, fieldAt_zero, fieldAt_succ, thenD, blockD, retR, Sv.cells]; done) | (dsimp only [putD, DV.cells, DH.new_next, DH.set_next, List.length_cons, List.length_nil, Nat.reduceAdd, List.set_cons_zero, List.set_cons_succ, getD_zero, getD_succ, fieldAt_zero, fieldAt_succ, thenD, blockD, retR, Sv.cells]; exact rfl) | exact rfl)); (· exact rfl); (· exact rfl); (· assumption); intro b1 H1 hB)
      | (apply op_at; (· exact rfl))
      | (apply dwp_cond_t; (· exact rfl); (· (first | with_reducible assumption | with_reducible rfl | decide)))
      | apply dwp_ret
      | (refine ⟨_, rfl, ?_⟩)
      | fail)
    rw [hA3] at hB
    exact hk _ _ ⟨s1, s2, s3, x1, x2, x3, o1, o2, o3, hB.drop1⟩
  · have hA1 : (remark = true ∧ (r != 10) = false) ∨ remark = false := by
      cases remark with
      | false => exact .inr rfl
      | true => exact .inl ⟨rfl, by simpa using hA⟩
    have ef0 : Cu.take ⟨toks, places, piece, (a1, a2), remark, (w1, w2), e⟩ (p1, p2) r = Cu.take ⟨toks, places, piece, (a1, a2), false, (w1, w2), e⟩ (p1, p2) r := by
      unfold Cu.take; rw [if_neg hA]; simp only [Bool.false_eq_true, false_and, if_false]
    rw [ef0] at hk
    refine enter rfl Tryd.func56 rfl Tryd.ntmps56 rfl ?_
    dsimp only [List.cons_append, List.nil_append, List.length_cons, List.length_nil, List.replicate_succ, List.replicate_zero, Nat.reduceAdd, Nat.reduceSub]
    repeat' (first
      | dsimp only [putD, DV.cells, DH.new_next, DH.set_next, List.length_cons, List.length_nil, Nat.reduceAdd, List.set_cons_zero, List.set_cons_succ, getD_zero, getD_succ, fieldAt_zero, fieldAt_succ, thenD, blockD, retR]
      | (refine dwp_cutAt (id := 1) (fun st => ∃ (b4 : Nat) (H1 : DH), ∃ J : Nat → DV, (Bx A H1 ([(b4, .rows false 2 [[.int .i64 p1, .int .i64 p2]]), (bc, .rows false 9 [[s1.dv, s2.dv, s3.dv, .int .i64 a1, .int .i64 a2, .bool false, .int .i64 w1, .int .i64 w2, .int .i64 e]])] ++ (x1 ++ (x2 ++ (x3 ++ rest)))) fs) ∧ st = ⟨(.ptr (some (bc, 0, 0)) :: .agg [.int .i64 p1, .int .i64 p2] :: .int .i32 r :: J 3 :: .ptr (some (b4, 0, 0)) :: J 5 :: J 6 :: J 7 :: J 8 :: J 9 :: J 10 :: J 11 :: J 12 :: J 13 :: J 14 :: J 15 :: J 16 :: J 17 :: J 18 :: J 19 :: J 20 :: J 21 :: J 22 :: J 23 :: J 24 :: J 25 :: J 26 :: J 27 :: J 28 :: J 29 :: J 30 :: J 31 :: J 32 :: J 33 :: J 34 :: J 35 :: J 36 :: J 37 :: J 38 :: J 39 :: J 40 :: J 41 :: J 42 :: J 43 :: J 44 :: J 45 :: J 46 :: J 47 :: J 48 :: J 49 :: J 50 :: J 51 :: J 52 :: J 53 :: J 54 :: J 55 :: J 56 :: J 57 :: J 58 :: J 59 :: J 60 :: J 61 :: J 62 :: J 63 :: J 64 :: J 65 :: J 66 :: J 67 :: J 68 :: J 69 :: J 70 :: J 71 :: J 72 :: J 73 :: J 74 :: J 75 :: J 76 :: J 77 :: J 78 :: J 79 :: J 80 :: J 81 :: J 82 :: J 83 :: J 84 :: J 85 :: J 86 :: J 87 :: []), H1⟩) ?_ ?_)
      | apply dwp_seq
      | apply dwp_region
      | apply ops_nil
      | (apply ops_plain; (· exact rfl))
      | (apply bx_box; (· exact rfl); (· exact rfl); (· (first | (dsimp only [putD, DV.cells, DH.new_next, DH.set_next, List.length_cons, List.length_nil, Nat.reduceAdd, List.set_cons_zero, List.set_cons_succ, getD_zero, getD_succ, fieldAt_zero, fieldAt_succ, thenD, blockD, retR, Sv.cells]; done) | (dsimp only [putD, DV.cells, DH.new_next, DH.set_next, List.length_cons, List.length_nil, Nat.reduceAdd, List.set_cons_zero, List.set_cons_succ, getD_zero, getD_succ, fieldAt_zero, fieldAt_succ, thenD, blockD, retR, Sv.cells]; exact rfl) | exact rfl)); (· exact rfl); (· exact rfl); (· assumption); intro b1 H1 hB)
      | fail)
    · refine ⟨?_⟩
      rcases hA1 with ⟨rfl, hA2⟩ | rfl
      · skip
        repeat' (first
          | dsimp only [putD, DV.cells, DH.new_next, DH.set_next, List.length_cons, List.length_nil, Nat.reduceAdd, List.set_cons_zero, List.set_cons_succ, getD_zero, getD_succ, fieldAt_zero, fieldAt_succ, thenD, blockD, retR]
          | apply dwp_region
          | apply ops_nil
          | (apply ops_plain; (· exact rfl))
          | (apply ops_on; (· exact rfl); (· exact rfl); (· (first | with_reducible assumption | with_reducible rfl | decide)))
          | (apply op_pick_t; (· exact rfl); (· exact rfl); (· (first | with_reducible assumption | with_reducible rfl | decide)); (· exact rfl))
          | (apply bx_load0; (· exact rfl); (· exact rfl); (· assumption); (· (repeat (first | with_reducible exact At.here | with_reducible apply At.there | with_reducible apply at_app))); (· (first | exact part57 _ _ _ _ | exact part49 _ _ | exact part49a _ _ _ _ _ _ _ _ _ | exact part49w _ _ _ _ _ _ _ _ _ | exact rfl)))
          | (apply bx_store1; (· exact rfl); (· exact rfl); (· exact rfl); (· assumption); (· (first | (dsimp only [putD, DV.cells, DH.new_next, DH.set_next, List.length_cons, List.length_nil, Nat.reduceAdd, List.set_cons_zero, List.set_cons_succ, getD_zero, getD_succ, fieldAt_zero, fieldAt_succ, thenD, blockD, retR, Sv.cells]; done) | (dsimp only [putD, DV.cells, DH.new_next, DH.set_next, List.length_cons, List.length_nil, Nat.reduceAdd, List.set_cons_zero, List.set_cons_succ, getD_zero, getD_succ, fieldAt_zero, fieldAt_succ, thenD, blockD, retR, Sv.cells]; exact rfl) | exact rfl)); (· (repeat (first | with_reducible exact At.here | with_reducible apply At.there | with_reducible apply at_app))); (· (first | (dsimp only [splice, List.take_zero, List.take_succ_cons, List.length_cons, List.length_nil, Nat.reduceAdd, Nat.zero_add, List.drop_zero, List.drop_succ_cons, List.drop_nil, List.nil_append, List.cons_append, List.append_nil, List.take_nil]; done) | (dsimp only [splice, List.take_zero, List.take_succ_cons, List.length_cons, List.length_nil, Nat.reduceAdd, Nat.zero_add, List.drop_zero, List.drop_succ_cons, List.drop_nil, List.nil_append, List.cons_append, List.append_nil, List.take_nil]; exact rfl) | exact rfl)); (· (repeat (first | with_reducible exact Upd.here | with_reducible apply Upd.there))); (· exact Nat.le_of_ble_eq_true rfl); (· exact rfl); (· exact rfl); (· exact rfl); intro H1 hB)
          | (apply op_at; (· exact rfl))
          | fail)
        rw [hA2] at hB
        exact ⟨rfl, _, _, junk_facts hB rfl rfl⟩
      · skip
        repeat' (first
          | dsimp only [putD, DV.cells, DH.new_next, DH.set_next, List.length_cons, List.length_nil, Nat.reduceAdd, List.set_cons_zero, List.set_cons_succ, getD_zero, getD_succ, fieldAt_zero, fieldAt_succ, thenD, blockD, retR]
          | apply dwp_region
          | apply ops_nil
          | (apply ops_plain; (· exact rfl))
          | (apply ops_off1; (· exact rfl); (· exact rfl); (· (first | with_reducible assumption | with_reducible rfl | decide)))
          | (apply op_pick_f; (· exact rfl); (· exact rfl); (· (first | with_reducible assumption | with_reducible rfl | decide)); (· exact rfl))
          | (apply bx_load0; (· exact rfl); (· exact rfl); (· assumption); (· (repeat (first | with_reducible exact At.here | with_reducible apply At.there | with_reducible apply at_app))); (· (first | exact part57 _ _ _ _ | exact part49 _ _ | exact part49a _ _ _ _ _ _ _ _ _ | exact part49w _ _ _ _ _ _ _ _ _ | exact rfl)))
          | (apply bx_store1; (· exact rfl); (· exact rfl); (· exact rfl); (· assumption); (· (first | (dsimp only [putD, DV.cells, DH.new_next, DH.set_next, List.length_cons, List.length_nil, Nat.reduceAdd, List.set_cons_zero, List.set_cons_succ, getD_zero, getD_succ, fieldAt_zero, fieldAt_succ, thenD, blockD, retR, Sv.cells]; done) | (dsimp only [putD, DV.cells, DH.new_next, DH.set_next, List.length_cons, List.length_nil, Nat.reduceAdd, List.set_cons_zero, List.set_cons_succ, getD_zero, getD_succ, fieldAt_zero, fieldAt_succ, thenD, blockD, retR, Sv.cells]; exact rfl) | exact rfl)); (· (repeat (first | with_reducible exact At.here | with_reducible apply At.there | with_reducible apply at_app))); (· (first | (dsimp only [splice, List.take_zero, List.take_succ_cons, List.length_cons, List.length_nil, Nat.reduceAdd, Nat.zero_add, List.drop_zero, List.drop_succ_cons, List.drop_nil, List.nil_append, List.cons_append, List.append_nil, List.take_nil]; done) | (dsimp only [splice, List.take_zero, List.take_succ_cons, List.length_cons, List.length_nil, Nat.reduceAdd, Nat.zero_add, List.drop_zero, List.drop_succ_cons, List.drop_nil, List.nil_append, List.cons_append, List.append_nil, List.take_nil]; exact rfl) | exact rfl)); (· (repeat (first | with_reducible exact Upd.here | with_reducible apply Upd.there))); (· exact Nat.le_of_ble_eq_true rfl); (· exact rfl); (· exact rfl); (· exact rfl); intro H1 hB)
          | (apply op_at; (· exact rfl))
          | fail)
        exact ⟨rfl, _, _, junk_facts hB rfl rfl⟩
    · rintro st ⟨b4, H1, J, hB, rfl⟩
      try dsimp only [thenD, List.cons_append, List.nil_append] at hB ⊢
      have hn3 : s3.n = piece.length := by rw [own_len o3, rowsB_len]
      cases hLD : (isLet r || isDgt r) with
      | true =>
        have hb48 : 48 ≤ r ∧ r ≤ 122 := by
          unfold isLet isDgt at hLD
          simp at hLD
          omega
        have hu8 : IntKind.u8.wrap r = ((UInt8.ofNat r.toNat).toNat : Int) := by
          have e1 : (UInt8.ofNat r.toNat).toNat = r.toNat := by
            rw [UInt8.toNat_ofNat']; omega
          rw [e1]
          unfold IntKind.wrap
          simp only [IntKind.signed, IntKind.bits]
          simp
          omega
        have hl3 : (rowsB piece).length + 1 ≤ mostD := by rw [rowsB_len]; unfold mostD; omega
        have ef : ∀ q : Int × Int, (if piece = [] then (p1, p2) else (a1, a2)) = q → Cu.take ⟨toks, places, piece, (a1, a2), false, (w1, w2), e⟩ (p1, p2) r = ⟨toks, places, piece ++ [UInt8.ofNat r.toNat], q, false, (w1, w2), e⟩ := by
          intro q hq
          unfold Cu.take
          rw [← hq]
          simp only [Bool.false_eq_true, false_and, if_false]
          rw [if_pos (by simpa using hLD)]
        have hrows : rowsB (piece ++ [UInt8.ofNat r.toNat]) = rowsB piece ++ [[.int .u8 ((UInt8.ofNat r.toNat).toNat : Int)]] := by simp [rowsB]
        cases hpe : ((s3.n : Int) == 0) with
        | true =>
          have hpe' : piece = [] := by
            have : s3.n = 0 := by simpa using hpe
            exact List.length_eq_zero_iff.mp (by omega)
          rw [ef (p1, p2) (if_pos hpe'), ] at hk
          cases hL : isLet r with
          | true =>
            repeat' (first
              | dsimp only [putD, DV.cells, DH.new_next, DH.set_next, List.length_cons, List.length_nil, Nat.reduceAdd, List.set_cons_zero, List.set_cons_succ, getD_zero, getD_succ, fieldAt_zero, fieldAt_succ, thenD, blockD, retR]
              | apply dwp_seq
              | apply dwp_region
              | apply ops_nil
              | (apply ops_plain; (· exact rfl))
              | (apply ops_off0; (· exact rfl); (· exact rfl); (· (first | with_reducible assumption | with_reducible rfl | decide)))
              | (apply op_call; (· exact rfl); (· exact rfl); (· exact rfl); (refine (letter62 _ _).mono ?_; rintro r0 H' ⟨rfl, rfl⟩; rw [hL]))
              | (apply op_pick_t; (· exact rfl); (· exact rfl); (· (first | with_reducible assumption | with_reducible rfl | decide)); (· exact rfl))
              | (apply op_told; (· exact rfl); (· exact congrArg (DV.int _) hu8))
              | (apply bx_build1 et68; (· exact rfl); (· exact rfl); (· exact rfl); (· exact rfl); (· exact rfl); (· decide); (· assumption); intro bn H1 hB)
              | (apply op_append_s; (· exact rfl); (· exact rfl); (· exact rfl); (· exact rfl); (· exact et68); (· exact o3); (· assumption); (· (repeat (first | with_reducible exact Ctx.here | with_reducible apply Ctx.cons | with_reducible apply Ctx.app))); (· exact At.here); (· exact rfl); (· exact rfl); (· assumption); intro t3 y3 H1 q3 hB)
              | (apply bx_load0; (· exact rfl); (· exact rfl); (· assumption); (· (repeat (first | with_reducible exact At.here | with_reducible apply At.there | with_reducible apply at_app))); (· (first | exact part57 _ _ _ _ | exact part49 _ _ | exact part49a _ _ _ _ _ _ _ _ _ | exact part49w _ _ _ _ _ _ _ _ _ | exact rfl)))
              | (apply bx_store1; (· exact rfl); (· exact rfl); (· exact rfl); (· assumption); (· (first | (dsimp only [putD, DV.cells, DH.new_next, DH.set_next, List.length_cons, List.length_nil, Nat.reduceAdd, List.set_cons_zero, List.set_cons_succ, getD_zero, getD_succ, fieldAt_zero, fieldAt_succ, thenD, blockD, retR, Sv.cells]; done) | (dsimp only [putD, DV.cells, DH.new_next, DH.set_next, List.length_cons, List.length_nil, Nat.reduceAdd, List.set_cons_zero, List.set_cons_succ, getD_zero, getD_succ, fieldAt_zero, fieldAt_succ, thenD, blockD, retR, Sv.cells]; exact rfl) | exact rfl)); (· (repeat (first | with_reducible exact At.here | with_reducible apply At.there | with_reducible apply at_app))); (· (first | (dsimp only [splice, List.take_zero, List.take_succ_cons, List.length_cons, List.length_nil, Nat.reduceAdd, Nat.zero_add, List.drop_zero, List.drop_succ_cons, List.drop_nil, List.nil_append, List.cons_append, List.append_nil, List.take_nil]; done) | (dsimp only [splice, List.take_zero, List.take_succ_cons, List.length_cons, List.length_nil, Nat.reduceAdd, Nat.zero_add, List.drop_zero, List.drop_succ_cons, List.drop_nil, List.nil_append, List.cons_append, List.append_nil, List.take_nil]; exact rfl) | exact rfl)); (· (repeat (first | with_reducible exact Upd.here | with_reducible apply Upd.there))); (· exact Nat.le_of_ble_eq_true rfl); (· exact rfl); (· exact rfl); (· exact rfl); intro H1 hB)
              | (apply op_at; (· exact rfl))
              | (apply dwp_cond_t; (· exact rfl); (· (first | with_reducible assumption | with_reducible rfl | decide)))
              | (apply dwp_cond_f; (· exact rfl); (· (first | with_reducible assumption | with_reducible rfl | decide)))
              | apply dwp_skip
              | apply dwp_ret
              | (refine ⟨_, rfl, ?_⟩)
              | fail)
            refine hk _ _ ⟨s1, s2, t3, x1, x2, y3, o1, o2, ?_, (hB.sub (by (repeat (first | exact List.Sublist.refl _ | exact List.nil_sublist _ | apply List.Sublist.cons_cons | apply List.Sublist.cons | apply List.Sublist.append_left | refine List.Sublist.trans ?_ (List.sublist_append_right _ _)))))⟩
            rw [hrows]; exact q3
          | false =>
            have hD : isDgt r = true := by rw [hL] at hLD; simpa using hLD
            repeat' (first
              | dsimp only [putD, DV.cells, DH.new_next, DH.set_next, List.length_cons, List.length_nil, Nat.reduceAdd, List.set_cons_zero, List.set_cons_succ, getD_zero, getD_succ, fieldAt_zero, fieldAt_succ, thenD, blockD, retR]
              | apply dwp_seq
              | apply dwp_region
              | apply ops_nil
              | (apply ops_plain; (· exact rfl))
              | (apply ops_on; (· exact rfl); (· exact rfl); (· (first | with_reducible assumption | with_reducible rfl | decide)))
              | (apply op_call; (· exact rfl); (· exact rfl); (· exact rfl); (refine (letter62 _ _).mono ?_; rintro r0 H' ⟨rfl, rfl⟩; rw [hL]))
              | (apply op_call; (· exact rfl); (· exact rfl); (· exact rfl); (refine (digit63 _ _).mono ?_; rintro r0 H' ⟨rfl, rfl⟩; rw [hD]))
              | (apply op_pick_f; (· exact rfl); (· exact rfl); (· (first | with_reducible assumption | with_reducible rfl | decide)); (· exact rfl))
              | (apply op_told; (· exact rfl); (· exact congrArg (DV.int _) hu8))
              | (apply bx_build1 et68; (· exact rfl); (· exact rfl); (· exact rfl); (· exact rfl); (· exact rfl); (· decide); (· assumption); intro bn H1 hB)
              | (apply op_append_s; (· exact rfl); (· exact rfl); (· exact rfl); (· exact rfl); (· exact et68); (· exact o3); (· assumption); (· (repeat (first | with_reducible exact Ctx.here | with_reducible apply Ctx.cons | with_reducible apply Ctx.app))); (· exact At.here); (· exact rfl); (· exact rfl); (· assumption); intro t3 y3 H1 q3 hB)
              | (apply bx_load0; (· exact rfl); (· exact rfl); (· assumption); (· (repeat (first | with_reducible exact At.here | with_reducible apply At.there | with_reducible apply at_app))); (· (first | exact part57 _ _ _ _ | exact part49 _ _ | exact part49a _ _ _ _ _ _ _ _ _ | exact part49w _ _ _ _ _ _ _ _ _ | exact rfl)))
              | (apply bx_store1; (· exact rfl); (· exact rfl); (· exact rfl); (· assumption); (· (first | (dsimp only [putD, DV.cells, DH.new_next, DH.set_next, List.length_cons, List.length_nil, Nat.reduceAdd, List.set_cons_zero, List.set_cons_succ, getD_zero, getD_succ, fieldAt_zero, fieldAt_succ, thenD, blockD, retR, Sv.cells]; done) | (dsimp only [putD, DV.cells, DH.new_next, DH.set_next, List.length_cons, List.length_nil, Nat.reduceAdd, List.set_cons_zero, List.set_cons_succ, getD_zero, getD_succ, fieldAt_zero, fieldAt_succ, thenD, blockD, retR, Sv.cells]; exact rfl) | exact rfl)); (· (repeat (first | with_reducible exact At.here | with_reducible apply At.there | with_reducible apply at_app))); (· (first | (dsimp only [splice, List.take_zero, List.take_succ_cons, List.length_cons, List.length_nil, Nat.reduceAdd, Nat.zero_add, List.drop_zero, List.drop_succ_cons, List.drop_nil, List.nil_append, List.cons_append, List.append_nil, List.take_nil]; done) | (dsimp only [splice, List.take_zero, List.take_succ_cons, List.length_cons, List.length_nil, Nat.reduceAdd, Nat.zero_add, List.drop_zero, List.drop_succ_cons, List.drop_nil, List.nil_append, List.cons_append, List.append_nil, List.take_nil]; exact rfl) | exact rfl)); (· (repeat (first | with_reducible exact Upd.here | with_reducible apply Upd.there))); (· exact Nat.le_of_ble_eq_true rfl); (· exact rfl); (· exact rfl); (· exact rfl); intro H1 hB)
              | (apply op_at; (· exact rfl))
              | (apply dwp_cond_t; (· exact rfl); (· (first | with_reducible assumption | with_reducible rfl | decide)))
              | (apply dwp_cond_f; (· exact rfl); (· (first | with_reducible assumption | with_reducible rfl | decide)))
              | apply dwp_skip
              | apply dwp_ret
              | (refine ⟨_, rfl, ?_⟩)
              | fail)
            refine hk _ _ ⟨s1, s2, t3, x1, x2, y3, o1, o2, ?_, (hB.sub (by (repeat (first | exact List.Sublist.refl _ | exact List.nil_sublist _ | apply List.Sublist.cons_cons | apply List.Sublist.cons | apply List.Sublist.append_left | refine List.Sublist.trans ?_ (List.sublist_append_right _ _)))))⟩
            rw [hrows]; exact q3
        | false =>
          have hpe' : ¬ piece = [] := by
            intro h
            subst h
            rw [hn3] at hpe
            cases hpe
          rw [ef (a1, a2) (if_neg hpe')] at hk
          cases hL : isLet r with
          | true =>
            repeat' (first
              | dsimp only [putD, DV.cells, DH.new_next, DH.set_next, List.length_cons, List.length_nil, Nat.reduceAdd, List.set_cons_zero, List.set_cons_succ, getD_zero, getD_succ, fieldAt_zero, fieldAt_succ, thenD, blockD, retR]
              | apply dwp_seq
              | apply dwp_region
              | apply ops_nil
              | (apply ops_plain; (· exact rfl))
              | (apply ops_off0; (· exact rfl); (· exact rfl); (· (first | with_reducible assumption | with_reducible rfl | decide)))
              | (apply op_call; (· exact rfl); (· exact rfl); (· exact rfl); (refine (letter62 _ _).mono ?_; rintro r0 H' ⟨rfl, rfl⟩; rw [hL]))
              | (apply op_pick_t; (· exact rfl); (· exact rfl); (· (first | with_reducible assumption | with_reducible rfl | decide)); (· exact rfl))
              | (apply op_told; (· exact rfl); (· exact congrArg (DV.int _) hu8))
              | (apply bx_build1 et68; (· exact rfl); (· exact rfl); (· exact rfl); (· exact rfl); (· exact rfl); (· decide); (· assumption); intro bn H1 hB)
              | (apply op_append_s; (· exact rfl); (· exact rfl); (· exact rfl); (· exact rfl); (· exact et68); (· exact o3); (· assumption); (· (repeat (first | with_reducible exact Ctx.here | with_reducible apply Ctx.cons | with_reducible apply Ctx.app))); (· exact At.here); (· exact rfl); (· exact rfl); (· assumption); intro t3 y3 H1 q3 hB)
              | (apply bx_load0; (· exact rfl); (· exact rfl); (· assumption); (· (repeat (first | with_reducible exact At.here | with_reducible apply At.there | with_reducible apply at_app))); (· (first | exact part57 _ _ _ _ | exact part49 _ _ | exact part49a _ _ _ _ _ _ _ _ _ | exact part49w _ _ _ _ _ _ _ _ _ | exact rfl)))
              | (apply bx_store1; (· exact rfl); (· exact rfl); (· exact rfl); (· assumption); (· (first | (dsimp only [putD, DV.cells, DH.new_next, DH.set_next, List.length_cons, List.length_nil, Nat.reduceAdd, List.set_cons_zero, List.set_cons_succ, getD_zero, getD_succ, fieldAt_zero, fieldAt_succ, thenD, blockD, retR, Sv.cells]; done) | (dsimp only [putD, DV.cells, DH.new_next, DH.set_next, List.length_cons, List.length_nil, Nat.reduceAdd, List.set_cons_zero, List.set_cons_succ, getD_zero, getD_succ, fieldAt_zero, fieldAt_succ, thenD, blockD, retR, Sv.cells]; exact rfl) | exact rfl)); (· (repeat (first | with_reducible exact At.here | with_reducible apply At.there | with_reducible apply at_app))); (· (first | (dsimp only [splice, List.take_zero, List.take_succ_cons, List.length_cons, List.length_nil, Nat.reduceAdd, Nat.zero_add, List.drop_zero, List.drop_succ_cons, List.drop_nil, List.nil_append, List.cons_append, List.append_nil, List.take_nil]; done) | (dsimp only [splice, List.take_zero, List.take_succ_cons, List.length_cons, List.length_nil, Nat.reduceAdd, Nat.zero_add, List.drop_zero, List.drop_succ_cons, List.drop_nil, List.nil_append, List.cons_append, List.append_nil, List.take_nil]; exact rfl) | exact rfl)); (· (repeat (first | with_reducible exact Upd.here | with_reducible apply Upd.there))); (· exact Nat.le_of_ble_eq_true rfl); (· exact rfl); (· exact rfl); (· exact rfl); intro H1 hB)
              | (apply op_at; (· exact rfl))
              | (apply dwp_cond_t; (· exact rfl); (· (first | with_reducible assumption | with_reducible rfl | decide)))
              | (apply dwp_cond_f; (· exact rfl); (· (first | with_reducible assumption | with_reducible rfl | decide)))
              | apply dwp_skip
              | apply dwp_ret
              | (refine ⟨_, rfl, ?_⟩)
              | fail)
            refine hk _ _ ⟨s1, s2, t3, x1, x2, y3, o1, o2, ?_, (hB.sub (by (repeat (first | exact List.Sublist.refl _ | exact List.nil_sublist _ | apply List.Sublist.cons_cons | apply List.Sublist.cons | apply List.Sublist.append_left | refine List.Sublist.trans ?_ (List.sublist_append_right _ _)))))⟩
            rw [hrows]; exact q3
          | false =>
            have hD : isDgt r = true := by rw [hL] at hLD; simpa using hLD
            repeat' (first
              | dsimp only [putD, DV.cells, DH.new_next, DH.set_next, List.length_cons, List.length_nil, Nat.reduceAdd, List.set_cons_zero, List.set_cons_succ, getD_zero, getD_succ, fieldAt_zero, fieldAt_succ, thenD, blockD, retR]
              | apply dwp_seq
              | apply dwp_region
              | apply ops_nil
              | (apply ops_plain; (· exact rfl))
              | (apply ops_on; (· exact rfl); (· exact rfl); (· (first | with_reducible assumption | with_reducible rfl | decide)))
              | (apply op_call; (· exact rfl); (· exact rfl); (· exact rfl); (refine (letter62 _ _).mono ?_; rintro r0 H' ⟨rfl, rfl⟩; rw [hL]))
              | (apply op_call; (· exact rfl); (· exact rfl); (· exact rfl); (refine (digit63 _ _).mono ?_; rintro r0 H' ⟨rfl, rfl⟩; rw [hD]))
              | (apply op_pick_f; (· exact rfl); (· exact rfl); (· (first | with_reducible assumption | with_reducible rfl | decide)); (· exact rfl))
              | (apply op_told; (· exact rfl); (· exact congrArg (DV.int _) hu8))
              | (apply bx_build1 et68; (· exact rfl); (· exact rfl); (· exact rfl); (· exact rfl); (· exact rfl); (· decide); (· assumption); intro bn H1 hB)
              | (apply op_append_s; (· exact rfl); (· exact rfl); (· exact rfl); (· exact rfl); (· exact et68); (· exact o3); (· assumption); (· (repeat (first | with_reducible exact Ctx.here | with_reducible apply Ctx.cons | with_reducible apply Ctx.app))); (· exact At.here); (· exact rfl); (· exact rfl); (· assumption); intro t3 y3 H1 q3 hB)
              | (apply bx_load0; (· exact rfl); (· exact rfl); (· assumption); (· (repeat (first | with_reducible exact At.here | with_reducible apply At.there | with_reducible apply at_app))); (· (first | exact part57 _ _ _ _ | exact part49 _ _ | exact part49a _ _ _ _ _ _ _ _ _ | exact part49w _ _ _ _ _ _ _ _ _ | exact rfl)))
              | (apply bx_store1; (· exact rfl); (· exact rfl); (· exact rfl); (· assumption); (· (first | (dsimp only [putD, DV.cells, DH.new_next, DH.set_next, List.length_cons, List.length_nil, Nat.reduceAdd, List.set_cons_zero, List.set_cons_succ, getD_zero, getD_succ, fieldAt_zero, fieldAt_succ, thenD, blockD, retR, Sv.cells]; done) | (dsimp only [putD, DV.cells, DH.new_next, DH.set_next, List.length_cons, List.length_nil, Nat.reduceAdd, List.set_cons_zero, List.set_cons_succ, getD_zero, getD_succ, fieldAt_zero, fieldAt_succ, thenD, blockD, retR, Sv.cells]; exact rfl) | exact rfl)); (· (repeat (first | with_reducible exact At.here | with_reducible apply At.there | with_reducible apply at_app))); (· (first | (dsimp only [splice, List.take_zero, List.take_succ_cons, List.length_cons, List.length_nil, Nat.reduceAdd, Nat.zero_add, List.drop_zero, List.drop_succ_cons, List.drop_nil, List.nil_append, List.cons_append, List.append_nil, List.take_nil]; done) | (dsimp only [splice, List.take_zero, List.take_succ_cons, List.length_cons, List.length_nil, Nat.reduceAdd, Nat.zero_add, List.drop_zero, List.drop_succ_cons, List.drop_nil, List.nil_append, List.cons_append, List.append_nil, List.take_nil]; exact rfl) | exact rfl)); (· (repeat (first | with_reducible exact Upd.here | with_reducible apply Upd.there))); (· exact Nat.le_of_ble_eq_true rfl); (· exact rfl); (· exact rfl); (· exact rfl); intro H1 hB)
              | (apply op_at; (· exact rfl))
              | (apply dwp_cond_t; (· exact rfl); (· (first | with_reducible assumption | with_reducible rfl | decide)))
              | (apply dwp_cond_f; (· exact rfl); (· (first | with_reducible assumption | with_reducible rfl | decide)))
              | apply dwp_skip
              | apply dwp_ret
              | (refine ⟨_, rfl, ?_⟩)
              | fail)
            refine hk _ _ ⟨s1, s2, t3, x1, x2, y3, o1, o2, ?_, (hB.sub (by (repeat (first | exact List.Sublist.refl _ | exact List.nil_sublist _ | apply List.Sublist.cons_cons | apply List.Sublist.cons | apply List.Sublist.append_left | refine List.Sublist.trans ?_ (List.sublist_append_right _ _)))))⟩
            rw [hrows]; exact q3
      | false =>
        have hL : isLet r = false := by simp at hLD; exact hLD.1
        have hD : isDgt r = false := by simp at hLD; exact hLD.2
        obtain ⟨c1, hc1⟩ : ∃ c1, c1 = Cu.fin ⟨toks, places, piece, (a1, a2), false, (w1, w2), e⟩ := ⟨_, rfl⟩
        have hfl := fin_len ⟨toks, places, piece, (a1, a2), false, (w1, w2), e⟩
        rw [← hc1] at hfl
        have ef : Cu.take ⟨toks, places, piece, (a1, a2), false, (w1, w2), e⟩ (p1, p2) r = (if r = 32 ∨ r = 9 ∨ r = 10 then c1 else if r = 35 then { c1 with remark := true } else if r = 59 ∨ r = 123 ∨ r = 125 then c1.add ⟨3, [UInt8.ofNat r.toNat], 0, false⟩ (p1, p2) else if r = 45 then { c1 with piece := c1.piece ++ [45], at' := (p1, p2) } else c1.fail (p1, p2) 4) := by
          unfold Cu.take
          simp only [Bool.false_eq_true, false_and, if_false]
          rw [if_neg (by simp [hL, hD]), hc1]
        rw [ef] at hk
        clear ef
        obtain ⟨toks1, places1, piece1, ⟨b1, b2⟩, rem1, ⟨v1, v2⟩, e1⟩ := c1
        dsimp only at hfl hk
        have hl3 : (rowsB piece1).length + 1 ≤ mostD := by rw [rowsB_len, hfl.2.2.1]; decide
        have hrows : rowsB (piece1 ++ [45]) = rowsB piece1 ++ [[.int .u8 ((45 : UInt8).toNat : Int)]] := by simp [rowsB]
        have g1 : toks1.length ≤ 1000000 := by omega
        have g2 : places1.length ≤ 1000000 := by omega
        have g3 : toks.length + 1 ≤ 1000000 := by omega
        have g4 : places.length + 1 ≤ 1000000 := by omega
        have hrest : ∀ {c' : Cu} {H' : DH}, Rep A H' bc c' ((b4, .rows false 2 [[.int .i64 p1, .int .i64 p2]]) :: rest) fs → Rep A H' bc c' rest fs := fun h => h.sub (List.sublist_cons_self _ _)
        by_cases hr32 : r = 32
        · subst hr32
          rw [if_pos (by simp)] at hk
          repeat' (first
            | dsimp only [putD, DV.cells, DH.new_next, DH.set_next, List.length_cons, List.length_nil, Nat.reduceAdd, List.set_cons_zero, List.set_cons_succ, getD_zero, getD_succ, fieldAt_zero, fieldAt_succ, thenD, blockD, retR]
            | apply dwp_seq
            | apply dwp_region
            | apply ops_nil
            | (apply ops_plain; (· exact rfl))
            | (apply ops_on; (· exact rfl); (· exact rfl); (· (first | with_reducible assumption | with_reducible rfl | decide)))
            | (apply op_call; (· exact rfl); (· exact rfl); (· exact rfl); (refine (letter62 _ _).mono ?_; rintro r0 H' ⟨rfl, rfl⟩; rw [hL]))
            | (apply op_call; (· exact rfl); (· exact rfl); (· exact rfl); (refine (digit63 _ _).mono ?_; rintro r0 H' ⟨rfl, rfl⟩; rw [hD]))
            | (apply op_call; (· exact rfl); (· exact rfl); (· exact rfl); (apply end54 (c := ⟨toks, places, piece, (a1, a2), false, (w1, w2), e⟩); (· exact g3); (· exact g4); (· exact h3); (· exact Rep.of1 (c := ⟨toks, places, piece, (a1, a2), false, (w1, w2), e⟩) o1 o2 o3 hB); intro r1 H1 hR1; rw [← hc1] at hR1; obtain ⟨s1, s2, s3, x1, x2, x3, o1, o2, o3, hB⟩ := hR1.ex; dsimp only at o1 o2 o3 hB))
            | (apply op_pick_f; (· exact rfl); (· exact rfl); (· (first | with_reducible assumption | with_reducible rfl | decide)); (· exact rfl))
            | (apply bx_load0; (· exact rfl); (· exact rfl); (· assumption); (· (repeat (first | with_reducible exact At.here | with_reducible apply At.there | with_reducible apply at_app))); (· (first | exact part57 _ _ _ _ | exact part49 _ _ | exact part49a _ _ _ _ _ _ _ _ _ | exact part49w _ _ _ _ _ _ _ _ _ | exact rfl)))
            | (apply op_at; (· exact rfl))
            | (apply dwp_cond_t; (· exact rfl); (· (first | with_reducible assumption | with_reducible rfl | decide)))
            | (apply dwp_cond_f; (· exact rfl); (· (first | with_reducible assumption | with_reducible rfl | decide)))
            | apply dwp_block
            | apply dwp_skip
            | (refine ⟨_, rfl, ?_⟩)
            | fail)
          exact hk _ _ (hrest (⟨s1, s2, s3, x1, x2, x3, o1, o2, o3, hB⟩ : Rep _ _ _ ⟨toks1, places1, piece1, (b1, b2), rem1, (v1, v2), e1⟩ _ _))
        by_cases hr9 : r = 9
        · subst hr9
          rw [if_pos (by simp)] at hk
          repeat' (first
            | dsimp only [putD, DV.cells, DH.new_next, DH.set_next, List.length_cons, List.length_nil, Nat.reduceAdd, List.set_cons_zero, List.set_cons_succ, getD_zero, getD_succ, fieldAt_zero, fieldAt_succ, thenD, blockD, retR]
            | apply dwp_seq
            | apply dwp_region
            | apply ops_nil
            | (apply ops_plain; (· exact rfl))
            | (apply ops_on; (· exact rfl); (· exact rfl); (· (first | with_reducible assumption | with_reducible rfl | decide)))
            | (apply op_call; (· exact rfl); (· exact rfl); (· exact rfl); (refine (letter62 _ _).mono ?_; rintro r0 H' ⟨rfl, rfl⟩; rw [hL]))
            | (apply op_call; (· exact rfl); (· exact rfl); (· exact rfl); (refine (digit63 _ _).mono ?_; rintro r0 H' ⟨rfl, rfl⟩; rw [hD]))
            | (apply op_call; (· exact rfl); (· exact rfl); (· exact rfl); (apply end54 (c := ⟨toks, places, piece, (a1, a2), false, (w1, w2), e⟩); (· exact g3); (· exact g4); (· exact h3); (· exact Rep.of1 (c := ⟨toks, places, piece, (a1, a2), false, (w1, w2), e⟩) o1 o2 o3 hB); intro r1 H1 hR1; rw [← hc1] at hR1; obtain ⟨s1, s2, s3, x1, x2, x3, o1, o2, o3, hB⟩ := hR1.ex; dsimp only at o1 o2 o3 hB))
            | (apply op_pick_f; (· exact rfl); (· exact rfl); (· (first | with_reducible assumption | with_reducible rfl | decide)); (· exact rfl))
            | (apply bx_load0; (· exact rfl); (· exact rfl); (· assumption); (· (repeat (first | with_reducible exact At.here | with_reducible apply At.there | with_reducible apply at_app))); (· (first | exact part57 _ _ _ _ | exact part49 _ _ | exact part49a _ _ _ _ _ _ _ _ _ | exact part49w _ _ _ _ _ _ _ _ _ | exact rfl)))
            | (apply op_at; (· exact rfl))
            | (apply dwp_cond_t; (· exact rfl); (· (first | with_reducible assumption | with_reducible rfl | decide)))
            | (apply dwp_cond_f; (· exact rfl); (· (first | with_reducible assumption | with_reducible rfl | decide)))
            | apply dwp_block
            | apply dwp_skip
            | (refine ⟨_, rfl, ?_⟩)
            | fail)
          exact hk _ _ (hrest (⟨s1, s2, s3, x1, x2, x3, o1, o2, o3, hB⟩ : Rep _ _ _ ⟨toks1, places1, piece1, (b1, b2), rem1, (v1, v2), e1⟩ _ _))
        by_cases hr10 : r = 10
        · subst hr10
          rw [if_pos (by simp)] at hk
          repeat' (first
            | dsimp only [putD, DV.cells, DH.new_next, DH.set_next, List.length_cons, List.length_nil, Nat.reduceAdd, List.set_cons_zero, List.set_cons_succ, getD_zero, getD_succ, fieldAt_zero, fieldAt_succ, thenD, blockD, retR]
            | apply dwp_seq
            | apply dwp_region
            | apply ops_nil
            | (apply ops_plain; (· exact rfl))
            | (apply ops_on; (· exact rfl); (· exact rfl); (· (first | with_reducible assumption | with_reducible rfl | decide)))
            | (apply op_call; (· exact rfl); (· exact rfl); (· exact rfl); (refine (letter62 _ _).mono ?_; rintro r0 H' ⟨rfl, rfl⟩; rw [hL]))
            | (apply op_call; (· exact rfl); (· exact rfl); (· exact rfl); (refine (digit63 _ _).mono ?_; rintro r0 H' ⟨rfl, rfl⟩; rw [hD]))
            | (apply op_call; (· exact rfl); (· exact rfl); (· exact rfl); (apply end54 (c := ⟨toks, places, piece, (a1, a2), false, (w1, w2), e⟩); (· exact g3); (· exact g4); (· exact h3); (· exact Rep.of1 (c := ⟨toks, places, piece, (a1, a2), false, (w1, w2), e⟩) o1 o2 o3 hB); intro r1 H1 hR1; rw [← hc1] at hR1; obtain ⟨s1, s2, s3, x1, x2, x3, o1, o2, o3, hB⟩ := hR1.ex; dsimp only at o1 o2 o3 hB))
            | (apply op_pick_f; (· exact rfl); (· exact rfl); (· (first | with_reducible assumption | with_reducible rfl | decide)); (· exact rfl))
            | (apply bx_load0; (· exact rfl); (· exact rfl); (· assumption); (· (repeat (first | with_reducible exact At.here | with_reducible apply At.there | with_reducible apply at_app))); (· (first | exact part57 _ _ _ _ | exact part49 _ _ | exact part49a _ _ _ _ _ _ _ _ _ | exact part49w _ _ _ _ _ _ _ _ _ | exact rfl)))
            | (apply op_at; (· exact rfl))
            | (apply dwp_cond_t; (· exact rfl); (· (first | with_reducible assumption | with_reducible rfl | decide)))
            | (apply dwp_cond_f; (· exact rfl); (· (first | with_reducible assumption | with_reducible rfl | decide)))
            | apply dwp_block
            | apply dwp_skip
            | (refine ⟨_, rfl, ?_⟩)
            | fail)
          exact hk _ _ (hrest (⟨s1, s2, s3, x1, x2, x3, o1, o2, o3, hB⟩ : Rep _ _ _ ⟨toks1, places1, piece1, (b1, b2), rem1, (v1, v2), e1⟩ _ _))
        by_cases hr35 : r = 35
        · subst hr35
          rw [if_neg (by decide), if_pos rfl] at hk
          repeat' (first
            | dsimp only [putD, DV.cells, DH.new_next, DH.set_next, List.length_cons, List.length_nil, Nat.reduceAdd, List.set_cons_zero, List.set_cons_succ, getD_zero, getD_succ, fieldAt_zero, fieldAt_succ, thenD, blockD, retR]
            | apply dwp_seq
            | apply dwp_region
            | apply ops_nil
            | (apply ops_plain; (· exact rfl))
            | (apply ops_on; (· exact rfl); (· exact rfl); (· (first | with_reducible assumption | with_reducible rfl | decide)))
            | (apply op_call; (· exact rfl); (· exact rfl); (· exact rfl); (refine (letter62 _ _).mono ?_; rintro r0 H' ⟨rfl, rfl⟩; rw [hL]))
            | (apply op_call; (· exact rfl); (· exact rfl); (· exact rfl); (refine (digit63 _ _).mono ?_; rintro r0 H' ⟨rfl, rfl⟩; rw [hD]))
            | (apply op_call; (· exact rfl); (· exact rfl); (· exact rfl); (apply end54 (c := ⟨toks, places, piece, (a1, a2), false, (w1, w2), e⟩); (· exact g3); (· exact g4); (· exact h3); (· exact Rep.of1 (c := ⟨toks, places, piece, (a1, a2), false, (w1, w2), e⟩) o1 o2 o3 hB); intro r1 H1 hR1; rw [← hc1] at hR1; obtain ⟨s1, s2, s3, x1, x2, x3, o1, o2, o3, hB⟩ := hR1.ex; dsimp only at o1 o2 o3 hB))
            | (apply op_pick_f; (· exact rfl); (· exact rfl); (· (first | with_reducible assumption | with_reducible rfl | decide)); (· exact rfl))
            | (apply bx_load0; (· exact rfl); (· exact rfl); (· assumption); (· (repeat (first | with_reducible exact At.here | with_reducible apply At.there | with_reducible apply at_app))); (· (first | exact part57 _ _ _ _ | exact part49 _ _ | exact part49a _ _ _ _ _ _ _ _ _ | exact part49w _ _ _ _ _ _ _ _ _ | exact rfl)))
            | (apply bx_store1; (· exact rfl); (· exact rfl); (· exact rfl); (· assumption); (· (first | (dsimp only [putD, DV.cells, DH.new_next, DH.set_next, List.length_cons, List.length_nil, Nat.reduceAdd, List.set_cons_zero, List.set_cons_succ, getD_zero, getD_succ, fieldAt_zero, fieldAt_succ, thenD, blockD, retR, Sv.cells]; done) | (dsimp only [putD, DV.cells, DH.new_next, DH.set_next, List.length_cons, List.length_nil, Nat.reduceAdd, List.set_cons_zero, List.set_cons_succ, getD_zero, getD_succ, fieldAt_zero, fieldAt_succ, thenD, blockD, retR, Sv.cells]; exact rfl) | exact rfl)); (· (repeat (first | with_reducible exact At.here | with_reducible apply At.there | with_reducible apply at_app))); (· (first | (dsimp only [splice, List.take_zero, List.take_succ_cons, List.length_cons, List.length_nil, Nat.reduceAdd, Nat.zero_add, List.drop_zero, List.drop_succ_cons, List.drop_nil, List.nil_append, List.cons_append, List.append_nil, List.take_nil]; done) | (dsimp only [splice, List.take_zero, List.take_succ_cons, List.length_cons, List.length_nil, Nat.reduceAdd, Nat.zero_add, List.drop_zero, List.drop_succ_cons, List.drop_nil, List.nil_append, List.cons_append, List.append_nil, List.take_nil]; exact rfl) | exact rfl)); (· (repeat (first | with_reducible exact Upd.here | with_reducible apply Upd.there))); (· exact Nat.le_of_ble_eq_true rfl); (· exact rfl); (· exact rfl); (· exact rfl); intro H1 hB)
            | (apply op_at; (· exact rfl))
            | (apply dwp_cond_t; (· exact rfl); (· (first | with_reducible assumption | with_reducible rfl | decide)))
            | (apply dwp_cond_f; (· exact rfl); (· (first | with_reducible assumption | with_reducible rfl | decide)))
            | apply dwp_block
            | apply dwp_skip
            | (refine ⟨_, rfl, ?_⟩)
            | fail)
          exact hk _ _ (hrest (⟨s1, s2, s3, x1, x2, x3, o1, o2, o3, hB⟩ : Rep _ _ _ ⟨toks1, places1, piece1, (b1, b2), true, (v1, v2), e1⟩ _ _))
        by_cases hr59 : r = 59
        · subst hr59
          rw [if_neg (by decide), if_neg (by decide), if_pos (by simp)] at hk
          have henc : (Utf8.encode 59).data.toList = [59] := by decide
          repeat' (first
            | dsimp only [putD, DV.cells, DH.new_next, DH.set_next, List.length_cons, List.length_nil, Nat.reduceAdd, List.set_cons_zero, List.set_cons_succ, getD_zero, getD_succ, fieldAt_zero, fieldAt_succ, thenD, blockD, retR]
            | apply dwp_seq
            | apply dwp_region
            | apply ops_nil
            | (apply ops_plain; (· exact rfl))
            | (apply ops_on; (· exact rfl); (· exact rfl); (· (first | with_reducible assumption | with_reducible rfl | decide)))
            | (apply op_call; (· exact rfl); (· exact rfl); (· exact rfl); (refine (letter62 _ _).mono ?_; rintro r0 H' ⟨rfl, rfl⟩; rw [hL]))
            | (apply op_call; (· exact rfl); (· exact rfl); (· exact rfl); (refine (digit63 _ _).mono ?_; rintro r0 H' ⟨rfl, rfl⟩; rw [hD]))
            | (apply op_call; (· exact rfl); (· exact rfl); (· exact rfl); (apply end54 (c := ⟨toks, places, piece, (a1, a2), false, (w1, w2), e⟩); (· exact g3); (· exact g4); (· exact h3); (· exact Rep.of1 (c := ⟨toks, places, piece, (a1, a2), false, (w1, w2), e⟩) o1 o2 o3 hB); intro r1 H1 hR1; rw [← hc1] at hR1; obtain ⟨s1, s2, s3, x1, x2, x3, o1, o2, o3, hB⟩ := hR1.ex; dsimp only at o1 o2 o3 hB))
            | (apply op_call; (· exact rfl); (· exact rfl); (· exact rfl); (apply add84 (c := ⟨toks1, places1, piece1, (b1, b2), rem1, (v1, v2), e1⟩) (t := ⟨3, [59], 0, false⟩); (· exact g1); (· exact g2); (· exact (⟨s1, s2, s3, x1, x2, x3, o1, o2, o3, hB⟩ : Rep _ _ _ ⟨toks1, places1, piece1, (b1, b2), rem1, (v1, v2), e1⟩ _ _)); intro r2 H2 hR2))
            | (apply op_pick_f; (· exact rfl); (· exact rfl); (· (first | with_reducible assumption | with_reducible rfl | decide)); (· exact rfl))
            | (apply op_told; (· exact rfl); (· exact congrArg DV.str henc))
            | (apply bx_load0; (· exact rfl); (· exact rfl); (· assumption); (· (repeat (first | with_reducible exact At.here | with_reducible apply At.there | with_reducible apply at_app))); (· (first | exact part57 _ _ _ _ | exact part49 _ _ | exact part49a _ _ _ _ _ _ _ _ _ | exact part49w _ _ _ _ _ _ _ _ _ | exact rfl)))
            | (apply op_at; (· exact rfl))
            | (apply dwp_cond_t; (· exact rfl); (· (first | with_reducible assumption | with_reducible rfl | decide)))
            | (apply dwp_cond_f; (· exact rfl); (· (first | with_reducible assumption | with_reducible rfl | decide)))
            | apply dwp_block
            | apply dwp_skip
            | (refine ⟨_, rfl, ?_⟩)
            | fail)
          exact hk _ _ (hrest hR2)
        by_cases hr123 : r = 123
        · subst hr123
          rw [if_neg (by decide), if_neg (by decide), if_pos (by simp)] at hk
          have henc : (Utf8.encode 123).data.toList = [123] := by decide
          repeat' (first
            | dsimp only [putD, DV.cells, DH.new_next, DH.set_next, List.length_cons, List.length_nil, Nat.reduceAdd, List.set_cons_zero, List.set_cons_succ, getD_zero, getD_succ, fieldAt_zero, fieldAt_succ, thenD, blockD, retR]
            | apply dwp_seq
            | apply dwp_region
            | apply ops_nil
            | (apply ops_plain; (· exact rfl))
            | (apply ops_on; (· exact rfl); (· exact rfl); (· (first | with_reducible assumption | with_reducible rfl | decide)))
            | (apply op_call; (· exact rfl); (· exact rfl); (· exact rfl); (refine (letter62 _ _).mono ?_; rintro r0 H' ⟨rfl, rfl⟩; rw [hL]))
            | (apply op_call; (· exact rfl); (· exact rfl); (· exact rfl); (refine (digit63 _ _).mono ?_; rintro r0 H' ⟨rfl, rfl⟩; rw [hD]))
            | (apply op_call; (· exact rfl); (· exact rfl); (· exact rfl); (apply end54 (c := ⟨toks, places, piece, (a1, a2), false, (w1, w2), e⟩); (· exact g3); (· exact g4); (· exact h3); (· exact Rep.of1 (c := ⟨toks, places, piece, (a1, a2), false, (w1, w2), e⟩) o1 o2 o3 hB); intro r1 H1 hR1; rw [← hc1] at hR1; obtain ⟨s1, s2, s3, x1, x2, x3, o1, o2, o3, hB⟩ := hR1.ex; dsimp only at o1 o2 o3 hB))
            | (apply op_call; (· exact rfl); (· exact rfl); (· exact rfl); (apply add84 (c := ⟨toks1, places1, piece1, (b1, b2), rem1, (v1, v2), e1⟩) (t := ⟨3, [123], 0, false⟩); (· exact g1); (· exact g2); (· exact (⟨s1, s2, s3, x1, x2, x3, o1, o2, o3, hB⟩ : Rep _ _ _ ⟨toks1, places1, piece1, (b1, b2), rem1, (v1, v2), e1⟩ _ _)); intro r2 H2 hR2))
            | (apply op_pick_f; (· exact rfl); (· exact rfl); (· (first | with_reducible assumption | with_reducible rfl | decide)); (· exact rfl))
            | (apply op_told; (· exact rfl); (· exact congrArg DV.str henc))
            | (apply bx_load0; (· exact rfl); (· exact rfl); (· assumption); (· (repeat (first | with_reducible exact At.here | with_reducible apply At.there | with_reducible apply at_app))); (· (first | exact part57 _ _ _ _ | exact part49 _ _ | exact part49a _ _ _ _ _ _ _ _ _ | exact part49w _ _ _ _ _ _ _ _ _ | exact rfl)))
            | (apply op_at; (· exact rfl))
            | (apply dwp_cond_t; (· exact rfl); (· (first | with_reducible assumption | with_reducible rfl | decide)))
            | (apply dwp_cond_f; (· exact rfl); (· (first | with_reducible assumption | with_reducible rfl | decide)))
            | apply dwp_block
            | apply dwp_skip
            | (refine ⟨_, rfl, ?_⟩)
            | fail)
          exact hk _ _ (hrest hR2)
        by_cases hr125 : r = 125
        · subst hr125
          rw [if_neg (by decide), if_neg (by decide), if_pos (by simp)] at hk
          have henc : (Utf8.encode 125).data.toList = [125] := by decide
          repeat' (first
            | dsimp only [putD, DV.cells, DH.new_next, DH.set_next, List.length_cons, List.length_nil, Nat.reduceAdd, List.set_cons_zero, List.set_cons_succ, getD_zero, getD_succ, fieldAt_zero, fieldAt_succ, thenD, blockD, retR]
            | apply dwp_seq
            | apply dwp_region
            | apply ops_nil
            | (apply ops_plain; (· exact rfl))
            | (apply ops_on; (· exact rfl); (· exact rfl); (· (first | with_reducible assumption | with_reducible rfl | decide)))
            | (apply op_call; (· exact rfl); (· exact rfl); (· exact rfl); (refine (letter62 _ _).mono ?_; rintro r0 H' ⟨rfl, rfl⟩; rw [hL]))
            | (apply op_call; (· exact rfl); (· exact rfl); (· exact rfl); (refine (digit63 _ _).mono ?_; rintro r0 H' ⟨rfl, rfl⟩; rw [hD]))
            | (apply op_call; (· exact rfl); (· exact rfl); (· exact rfl); (apply end54 (c := ⟨toks, places, piece, (a1, a2), false, (w1, w2), e⟩); (· exact g3); (· exact g4); (· exact h3); (· exact Rep.of1 (c := ⟨toks, places, piece, (a1, a2), false, (w1, w2), e⟩) o1 o2 o3 hB); intro r1 H1 hR1; rw [← hc1] at hR1; obtain ⟨s1, s2, s3, x1, x2, x3, o1, o2, o3, hB⟩ := hR1.ex; dsimp only at o1 o2 o3 hB))
            | (apply op_call; (· exact rfl); (· exact rfl); (· exact rfl); (apply add84 (c := ⟨toks1, places1, piece1, (b1, b2), rem1, (v1, v2), e1⟩) (t := ⟨3, [125], 0, false⟩); (· exact g1); (· exact g2); (· exact (⟨s1, s2, s3, x1, x2, x3, o1, o2, o3, hB⟩ : Rep _ _ _ ⟨toks1, places1, piece1, (b1, b2), rem1, (v1, v2), e1⟩ _ _)); intro r2 H2 hR2))
            | (apply op_pick_f; (· exact rfl); (· exact rfl); (· (first | with_reducible assumption | with_reducible rfl | decide)); (· exact rfl))
            | (apply op_told; (· exact rfl); (· exact congrArg DV.str henc))
            | (apply bx_load0; (· exact rfl); (· exact rfl); (· assumption); (· (repeat (first | with_reducible exact At.here | with_reducible apply At.there | with_reducible apply at_app))); (· (first | exact part57 _ _ _ _ | exact part49 _ _ | exact part49a _ _ _ _ _ _ _ _ _ | exact part49w _ _ _ _ _ _ _ _ _ | exact rfl)))
            | (apply op_at; (· exact rfl))
            | (apply dwp_cond_t; (· exact rfl); (· (first | with_reducible assumption | with_reducible rfl | decide)))
            | (apply dwp_cond_f; (· exact rfl); (· (first | with_reducible assumption | with_reducible rfl | decide)))
            | apply dwp_block
            | apply dwp_skip
            | (refine ⟨_, rfl, ?_⟩)
            | fail)
          exact hk _ _ (hrest hR2)
        by_cases hr45 : r = 45
        · subst hr45
          rw [if_neg (by decide), if_neg (by decide), if_neg (by decide), if_pos rfl] at hk
          repeat' (first
            | dsimp only [putD, DV.cells, DH.new_next, DH.set_next, List.length_cons, List.length_nil, Nat.reduceAdd, List.set_cons_zero, List.set_cons_succ, getD_zero, getD_succ, fieldAt_zero, fieldAt_succ, thenD, blockD, retR]
            | refine dwp_drawq _ rfl [8] (fun H' => Bx A H' [(bc, .rows false 9 [[s1.dv, s2.dv, s3.dv, .int .i64 b1, .int .i64 b2, .bool rem1, .int .i64 v1, .int .i64 v2, .int .i64 e1]]), (b4, .rows false 2 [[.int .i64 p1, .int .i64 p2]])] fs) (fun H' => Bx A H' [(b4, .rows false 2 [[.int .i64 p1, .int .i64 p2]])] fs) (hB.sub (by (repeat (first | exact List.Sublist.refl _ | exact List.nil_sublist _ | apply List.Sublist.cons_cons | apply List.Sublist.cons | apply List.Sublist.append_left | refine List.Sublist.trans ?_ (List.sublist_append_right _ _))))) ?_
            | (apply drawq_pure; (· (first | exact wanted_plain rfl | (apply wanted_on; (· exact rfl); (· exact rfl); (· (first | with_reducible assumption | with_reducible rfl | decide))))); (· exact rfl); (· exact rfl); (· exact rfl))
            | (apply drawq_read; (· (first | exact wanted_plain rfl | (apply wanted_on; (· exact rfl); (· exact rfl); (· (first | with_reducible assumption | with_reducible rfl | decide))))); (· exact rfl); (· exact rfl); (· intro H' h; have h : Bx _ H' _ _ := h; exact opD_load rfl rfl (h.get (by (repeat (first | with_reducible exact At.here | with_reducible apply At.there)))) rfl (by (first | exact part57 _ _ _ _ | exact part49 _ _ | exact part49a _ _ _ _ _ _ _ _ _ | exact part49w _ _ _ _ _ _ _ _ _ | exact rfl))); (· intro h2; exact absurd h2 (by decide)))
            | (apply drawq_read; (· (first | exact wanted_plain rfl | (apply wanted_on; (· exact rfl); (· exact rfl); (· (first | with_reducible assumption | with_reducible rfl | decide))))); (· exact rfl); (· exact rfl); (· intro H' h; have h : Bx _ H' _ _ := h; exact opD_load rfl rfl (h.get (by (repeat (first | with_reducible exact At.here | with_reducible apply At.there)))) rfl (by (first | exact part57 _ _ _ _ | exact part49 _ _ | exact part49a _ _ _ _ _ _ _ _ _ | exact part49w _ _ _ _ _ _ _ _ _ | exact rfl))); (· intro h2 H' h; have h : Bx _ H' _ _ := h; exact opD_load rfl rfl (h.get (by (repeat (first | with_reducible exact At.here | with_reducible apply At.there)))) rfl (by (first | exact part57 _ _ _ _ | exact part49 _ _ | exact part49a _ _ _ _ _ _ _ _ _ | exact part49w _ _ _ _ _ _ _ _ _ | exact rfl))))
            | (apply drawq_sync_st; (· exact rfl); (· (first | exact wanted_plain rfl | (apply wanted_on; (· exact rfl); (· exact rfl); (· (first | with_reducible assumption | with_reducible rfl | decide))))); (· decide +kernel))
            | (apply drawq_move; (· (first | exact wanted_plain rfl | (apply wanted_on; (· exact rfl); (· exact rfl); (· (first | with_reducible assumption | with_reducible rfl | decide))))); (· exact rfl))
            | apply draws_nil
            | (apply draws_pure; (· (first | exact wanted_plain rfl | (apply wanted_on; (· exact rfl); (· exact rfl); (· (first | with_reducible assumption | with_reducible rfl | decide))))); (· exact rfl); (· exact rfl); (· exact rfl))
            | (apply draws_move; (· (first | exact wanted_plain rfl | (apply wanted_on; (· exact rfl); (· exact rfl); (· (first | with_reducible assumption | with_reducible rfl | decide))))); (· exact rfl); (· decide +kernel))
            | refine ⟨(hB.sub (by (repeat (first | exact List.Sublist.refl _ | exact List.nil_sublist _ | apply List.Sublist.cons_cons | apply List.Sublist.cons | apply List.Sublist.append_left | refine List.Sublist.trans ?_ (List.sublist_append_right _ _))))), ?_⟩
            | apply dwp_seq
            | apply dwp_region
            | apply ops_nil
            | (apply ops_plain; (· exact rfl))
            | (apply ops_on; (· exact rfl); (· exact rfl); (· (first | with_reducible assumption | with_reducible rfl | decide)))
            | (apply op_call; (· exact rfl); (· exact rfl); (· exact rfl); (refine (letter62 _ _).mono ?_; rintro r0 H' ⟨rfl, rfl⟩; rw [hL]))
            | (apply op_call; (· exact rfl); (· exact rfl); (· exact rfl); (refine (digit63 _ _).mono ?_; rintro r0 H' ⟨rfl, rfl⟩; rw [hD]))
            | (apply op_call; (· exact rfl); (· exact rfl); (· exact rfl); (apply end54 (c := ⟨toks, places, piece, (a1, a2), false, (w1, w2), e⟩); (· exact g3); (· exact g4); (· exact h3); (· exact Rep.of1 (c := ⟨toks, places, piece, (a1, a2), false, (w1, w2), e⟩) o1 o2 o3 hB); intro r1 H1 hR1; rw [← hc1] at hR1; obtain ⟨s1, s2, s3, x1, x2, x3, o1, o2, o3, hB⟩ := hR1.ex; dsimp only at o1 o2 o3 hB))
            | (apply op_pick_f; (· exact rfl); (· exact rfl); (· (first | with_reducible assumption | with_reducible rfl | decide)); (· exact rfl))
            | (apply bx_build1 et68; (· exact rfl); (· exact rfl); (· exact rfl); (· exact rfl); (· exact rfl); (· decide); (· assumption); intro bn H1 hB; refine ⟨(hB.sub (by (repeat (first | exact List.Sublist.refl _ | exact List.nil_sublist _ | apply List.Sublist.cons_cons | apply List.Sublist.cons | apply List.Sublist.append_left | refine List.Sublist.trans ?_ (List.sublist_append_right _ _))))), ?_⟩)
            | (apply op_append_s; (· exact rfl); (· exact rfl); (· exact rfl); (· exact rfl); (· exact et68); (· exact o3); (· assumption); (· (repeat (first | with_reducible exact Ctx.here | with_reducible apply Ctx.cons | with_reducible apply Ctx.app))); (· exact At.here); (· exact rfl); (· exact rfl); (· assumption); intro t3 y3 H1 q3 hB; refine ⟨(hB.sub (by (repeat (first | exact List.Sublist.refl _ | exact List.nil_sublist _ | apply List.Sublist.cons_cons | apply List.Sublist.cons | apply List.Sublist.append_left | refine List.Sublist.trans ?_ (List.sublist_append_right _ _))))), ?_⟩)
            | (apply bx_load0; (· exact rfl); (· exact rfl); (· assumption); (· (repeat (first | with_reducible exact At.here | with_reducible apply At.there | with_reducible apply at_app))); (· (first | exact part57 _ _ _ _ | exact part49 _ _ | exact part49a _ _ _ _ _ _ _ _ _ | exact part49w _ _ _ _ _ _ _ _ _ | exact rfl)))
            | (apply bx_store1; (· exact rfl); (· exact rfl); (· exact rfl); (· assumption); (· (first | (dsimp only [putD, DV.cells, DH.new_next, DH.set_next, List.length_cons, List.length_nil, Nat.reduceAdd, List.set_cons_zero, List.set_cons_succ, getD_zero, getD_succ, fieldAt_zero, fieldAt_succ, thenD, blockD, retR, Sv.cells]; done) | (dsimp only [putD, DV.cells, DH.new_next, DH.set_next, List.length_cons, List.length_nil, Nat.reduceAdd, List.set_cons_zero, List.set_cons_succ, getD_zero, getD_succ, fieldAt_zero, fieldAt_succ, thenD, blockD, retR, Sv.cells]; exact rfl) | exact rfl)); (· (repeat (first | with_reducible exact At.here | with_reducible apply At.there | with_reducible apply at_app))); (· (first | (dsimp only [splice, List.take_zero, List.take_succ_cons, List.length_cons, List.length_nil, Nat.reduceAdd, Nat.zero_add, List.drop_zero, List.drop_succ_cons, List.drop_nil, List.nil_append, List.cons_append, List.append_nil, List.take_nil]; done) | (dsimp only [splice, List.take_zero, List.take_succ_cons, List.length_cons, List.length_nil, Nat.reduceAdd, Nat.zero_add, List.drop_zero, List.drop_succ_cons, List.drop_nil, List.nil_append, List.cons_append, List.append_nil, List.take_nil]; exact rfl) | exact rfl)); (· (repeat (first | with_reducible exact Upd.here | with_reducible apply Upd.there))); (· exact Nat.le_of_ble_eq_true rfl); (· exact rfl); (· exact rfl); (· exact rfl); intro H1 hB)
            | (apply op_at; (· exact rfl))
            | (apply dwp_cond_t; (· exact rfl); (· (first | with_reducible assumption | with_reducible rfl | decide)))
            | (apply dwp_cond_f; (· exact rfl); (· (first | with_reducible assumption | with_reducible rfl | decide)))
            | apply dwp_block
            | apply dwp_skip
            | (refine ⟨_, rfl, ?_⟩)
            | fail)
          refine hk _ _ (hrest ⟨s1, s2, t3, x1, x2, y3, o1, o2, ?_, (hB.sub (by (repeat (first | exact List.Sublist.refl _ | exact List.nil_sublist _ | apply List.Sublist.cons_cons | apply List.Sublist.cons | apply List.Sublist.append_left | refine List.Sublist.trans ?_ (List.sublist_append_right _ _)))))⟩)
          rw [hrows]; exact q3
        have hq32 : (r == 32) = false := by simpa using hr32
        have hq9 : (r == 9) = false := by simpa using hr9
        have hq10 : (r == 10) = false := by simpa using hr10
        have hq35 : (r == 35) = false := by simpa using hr35
        have hq59 : (r == 59) = false := by simpa using hr59
        have hq123 : (r == 123) = false := by simpa using hr123
        have hq125 : (r == 125) = false := by simpa using hr125
        have hq45 : (r == 45) = false := by simpa using hr45
        rw [if_neg (by omega), if_neg hr35, if_neg (by omega), if_neg hr45] at hk
        repeat' (first
          | dsimp only [putD, DV.cells, DH.new_next, DH.set_next, List.length_cons, List.length_nil, Nat.reduceAdd, List.set_cons_zero, List.set_cons_succ, getD_zero, getD_succ, fieldAt_zero, fieldAt_succ, thenD, blockD, retR]
          | apply dwp_seq
          | apply dwp_region
          | apply ops_nil
          | (apply ops_plain; (· exact rfl))
          | (apply ops_on; (· exact rfl); (· exact rfl); (· (first | with_reducible assumption | with_reducible rfl | decide)))
          | (apply op_call; (· exact rfl); (· exact rfl); (· exact rfl); (refine (letter62 _ _).mono ?_; rintro r0 H' ⟨rfl, rfl⟩; rw [hL]))
          | (apply op_call; (· exact rfl); (· exact rfl); (· exact rfl); (refine (digit63 _ _).mono ?_; rintro r0 H' ⟨rfl, rfl⟩; rw [hD]))
          | (apply op_call; (· exact rfl); (· exact rfl); (· exact rfl); (apply end54 (c := ⟨toks, places, piece, (a1, a2), false, (w1, w2), e⟩); (· exact g3); (· exact g4); (· exact h3); (· exact Rep.of1 (c := ⟨toks, places, piece, (a1, a2), false, (w1, w2), e⟩) o1 o2 o3 hB); intro r1 H1 hR1; rw [← hc1] at hR1; obtain ⟨s1, s2, s3, x1, x2, x3, o1, o2, o3, hB⟩ := hR1.ex; dsimp only at o1 o2 o3 hB))
          | (apply op_call; (· exact rfl); (· exact rfl); (· exact rfl); (apply fail55 (c := ⟨toks1, places1, piece1, (b1, b2), rem1, (v1, v2), e1⟩); (· exact (⟨s1, s2, s3, x1, x2, x3, o1, o2, o3, hB⟩ : Rep _ _ _ ⟨toks1, places1, piece1, (b1, b2), rem1, (v1, v2), e1⟩ _ _)); intro r2 H2 hR2))
          | (apply op_pick_f; (· exact rfl); (· exact rfl); (· (first | with_reducible assumption | with_reducible rfl | decide)); (· exact rfl))
          | (apply bx_load0; (· exact rfl); (· exact rfl); (· assumption); (· (repeat (first | with_reducible exact At.here | with_reducible apply At.there | with_reducible apply at_app))); (· (first | exact part57 _ _ _ _ | exact part49 _ _ | exact part49a _ _ _ _ _ _ _ _ _ | exact part49w _ _ _ _ _ _ _ _ _ | exact rfl)))
          | (apply op_at; (· exact rfl))
          | (apply dwp_cond_f; (· exact rfl); (· (first | with_reducible assumption | with_reducible rfl | decide)))
          | apply dwp_block
          | apply dwp_skip
          | (refine ⟨_, rfl, ?_⟩)
          | fail)
        exact hk _ _ (hrest hR2)
end
end Go.Det.C

/- The place behind a rune; a text's runes. -/
namespace Go.Det.C
open Go Go.Det Go.Proofs
set_option maxRecDepth 4000
set_option maxHeartbeats 4000000
set_option linter.unusedVariables false
set_option linter.unusedSimpArgs false
theorem next57 {p1 p2 r : Int} {A H : DH} {bs : List (Nat × DObj)} {fs : List (DH → Prop)} {K : DV → DH → Prop} (h1 : 0 ≤ p1 ∧ p1 ≤ 1000000) (h2 : 0 ≤ p2 ∧ p2 ≤ 1000000) (hB : Bx A H bs fs)
    (hk : ∀ H', Bx A H' bs fs → K (.agg [.int .i64 (nextP (p1, p2) r).1, .int .i64 (nextP (p1, p2) r).2]) H') : CallWp Tryd.prog X3 57 [.agg [.int .i64 p1, .int .i64 p2], .int .i32 r] H K := by
  have w1 : IntKind.i64.wrap (p1 + 1) = p1 + 1 := wrapI (by omega)
  have w2 : IntKind.i64.wrap (p2 + 1) = p2 + 1 := wrapI (by omega)
  unfold nextP at hk
  cases hr : (r == 10) with
  | true =>
    rw [if_pos (by simpa using hr)] at hk
    refine enter rfl Tryd.func57 rfl Tryd.ntmps57 rfl ?_
    dsimp only [List.cons_append, List.nil_append, List.length_cons, List.length_nil, List.replicate_succ, List.replicate_zero, Nat.reduceAdd, Nat.reduceSub]
    repeat' (first
      | dsimp only [putD, DV.cells, DH.new_next, DH.set_next, List.length_cons, List.length_nil, Nat.reduceAdd, List.set_cons_zero, List.set_cons_succ, getD_zero, getD_succ, fieldAt_zero, fieldAt_succ, thenD, blockD, retR]
      | (refine ⟨_, resOf_c (loadD_at rfl (Bx.get (by assumption) (by (repeat (first | with_reducible exact At.here | with_reducible apply At.there | with_reducible apply at_app)))) rfl (by (first | exact part57 _ _ _ _ | exact part49 _ _ | exact part49a _ _ _ _ _ _ _ _ _ | exact part49w _ _ _ _ _ _ _ _ _ | exact rfl))), ?_⟩)
      | apply dwp_seq
      | apply dwp_region
      | apply ops_nil
      | (apply ops_plain; (· exact rfl))
      | (apply op_told; (· exact rfl); (· exact congrArg (DV.int _) w1))
      | (apply bx_load0; (· exact rfl); (· exact rfl); (· assumption); (· (repeat (first | with_reducible exact At.here | with_reducible apply At.there | with_reducible apply at_app))); (· (first | exact part57 _ _ _ _ | exact part49 _ _ | exact part49a _ _ _ _ _ _ _ _ _ | exact part49w _ _ _ _ _ _ _ _ _ | exact rfl)))
      | (apply bx_store0; (· exact rfl); (· exact rfl); (· exact rfl); (· assumption); (· (first | (dsimp only [putD, DV.cells, DH.new_next, DH.set_next, List.length_cons, List.length_nil, Nat.reduceAdd, List.set_cons_zero, List.set_cons_succ, getD_zero, getD_succ, fieldAt_zero, fieldAt_succ, thenD, blockD, retR, Sv.cells]; done) | (dsimp only [putD, DV.cells, DH.new_next, DH.set_next, List.length_cons, List.length_nil, Nat.reduceAdd, List.set_cons_zero, List.set_cons_succ, getD_zero, getD_succ, fieldAt_zero, fieldAt_succ, thenD, blockD, retR, Sv.cells]; exact rfl) | exact rfl)); (· (repeat (first | with_reducible exact Upd.here | with_reducible apply Upd.there))); (· exact rfl); (· exact rfl); (· exact rfl); (· exact rfl); intro H1 hB)
      | (apply bx_box; (· exact rfl); (· exact rfl); (· (first | (dsimp only [putD, DV.cells, DH.new_next, DH.set_next, List.length_cons, List.length_nil, Nat.reduceAdd, List.set_cons_zero, List.set_cons_succ, getD_zero, getD_succ, fieldAt_zero, fieldAt_succ, thenD, blockD, retR, Sv.cells]; done) | (dsimp only [putD, DV.cells, DH.new_next, DH.set_next, List.length_cons, List.length_nil, Nat.reduceAdd, List.set_cons_zero, List.set_cons_succ, getD_zero, getD_succ, fieldAt_zero, fieldAt_succ, thenD, blockD, retR, Sv.cells]; exact rfl) | exact rfl)); (· exact rfl); (· exact rfl); (· assumption); intro b1 H1 hB)
      | (apply bx_alloc; (· exact rfl); (· exact zero49); (· (first | (dsimp only [putD, DV.cells, DH.new_next, DH.set_next, List.length_cons, List.length_nil, Nat.reduceAdd, List.set_cons_zero, List.set_cons_succ, getD_zero, getD_succ, fieldAt_zero, fieldAt_succ, thenD, blockD, retR, Sv.cells]; done) | (dsimp only [putD, DV.cells, DH.new_next, DH.set_next, List.length_cons, List.length_nil, Nat.reduceAdd, List.set_cons_zero, List.set_cons_succ, getD_zero, getD_succ, fieldAt_zero, fieldAt_succ, thenD, blockD, retR, Sv.cells]; exact rfl) | exact rfl)); (· exact rfl); (· exact rfl); (· assumption); intro b1 H1 hB)
      | (apply op_at; (· exact rfl))
      | (apply dwp_cond_t; (· exact rfl); (· (first | with_reducible assumption | with_reducible rfl | decide)))
      | apply dwp_ret
      | fail)
    exact hk _ hB.drop1.drop1
  | false =>
    rw [if_neg (by simpa using hr)] at hk
    refine enter rfl Tryd.func57 rfl Tryd.ntmps57 rfl ?_
    dsimp only [List.cons_append, List.nil_append, List.length_cons, List.length_nil, List.replicate_succ, List.replicate_zero, Nat.reduceAdd, Nat.reduceSub]
    repeat' (first
      | dsimp only [putD, DV.cells, DH.new_next, DH.set_next, List.length_cons, List.length_nil, Nat.reduceAdd, List.set_cons_zero, List.set_cons_succ, getD_zero, getD_succ, fieldAt_zero, fieldAt_succ, thenD, blockD, retR]
      | (refine ⟨_, resOf_c (loadD_at rfl (Bx.get (by assumption) (by (repeat (first | with_reducible exact At.here | with_reducible apply At.there | with_reducible apply at_app)))) rfl (by (first | exact part57 _ _ _ _ | exact part49 _ _ | exact part49a _ _ _ _ _ _ _ _ _ | exact part49w _ _ _ _ _ _ _ _ _ | exact rfl))), ?_⟩)
      | apply dwp_seq
      | apply dwp_region
      | apply ops_nil
      | (apply ops_plain; (· exact rfl))
      | (apply op_told; (· exact rfl); (· exact congrArg (DV.int _) w2))
      | (apply bx_load0; (· exact rfl); (· exact rfl); (· assumption); (· (repeat (first | with_reducible exact At.here | with_reducible apply At.there | with_reducible apply at_app))); (· (first | exact part57 _ _ _ _ | exact part49 _ _ | exact part49a _ _ _ _ _ _ _ _ _ | exact part49w _ _ _ _ _ _ _ _ _ | exact rfl)))
      | (apply bx_store0; (· exact rfl); (· exact rfl); (· exact rfl); (· assumption); (· (first | (dsimp only [putD, DV.cells, DH.new_next, DH.set_next, List.length_cons, List.length_nil, Nat.reduceAdd, List.set_cons_zero, List.set_cons_succ, getD_zero, getD_succ, fieldAt_zero, fieldAt_succ, thenD, blockD, retR, Sv.cells]; done) | (dsimp only [putD, DV.cells, DH.new_next, DH.set_next, List.length_cons, List.length_nil, Nat.reduceAdd, List.set_cons_zero, List.set_cons_succ, getD_zero, getD_succ, fieldAt_zero, fieldAt_succ, thenD, blockD, retR, Sv.cells]; exact rfl) | exact rfl)); (· (repeat (first | with_reducible exact Upd.here | with_reducible apply Upd.there))); (· exact rfl); (· exact rfl); (· exact rfl); (· exact rfl); intro H1 hB)
      | (apply bx_store1; (· exact rfl); (· exact rfl); (· exact rfl); (· assumption); (· (first | (dsimp only [putD, DV.cells, DH.new_next, DH.set_next, List.length_cons, List.length_nil, Nat.reduceAdd, List.set_cons_zero, List.set_cons_succ, getD_zero, getD_succ, fieldAt_zero, fieldAt_succ, thenD, blockD, retR, Sv.cells]; done) | (dsimp only [putD, DV.cells, DH.new_next, DH.set_next, List.length_cons, List.length_nil, Nat.reduceAdd, List.set_cons_zero, List.set_cons_succ, getD_zero, getD_succ, fieldAt_zero, fieldAt_succ, thenD, blockD, retR, Sv.cells]; exact rfl) | exact rfl)); (· (repeat (first | with_reducible exact At.here | with_reducible apply At.there | with_reducible apply at_app))); (· (first | (dsimp only [splice, List.take_zero, List.take_succ_cons, List.length_cons, List.length_nil, Nat.reduceAdd, Nat.zero_add, List.drop_zero, List.drop_succ_cons, List.drop_nil, List.nil_append, List.cons_append, List.append_nil, List.take_nil]; done) | (dsimp only [splice, List.take_zero, List.take_succ_cons, List.length_cons, List.length_nil, Nat.reduceAdd, Nat.zero_add, List.drop_zero, List.drop_succ_cons, List.drop_nil, List.nil_append, List.cons_append, List.append_nil, List.take_nil]; exact rfl) | exact rfl)); (· (repeat (first | with_reducible exact Upd.here | with_reducible apply Upd.there))); (· exact Nat.le_of_ble_eq_true rfl); (· exact rfl); (· exact rfl); (· exact rfl); intro H1 hB)
      | (apply bx_box; (· exact rfl); (· exact rfl); (· (first | (dsimp only [putD, DV.cells, DH.new_next, DH.set_next, List.length_cons, List.length_nil, Nat.reduceAdd, List.set_cons_zero, List.set_cons_succ, getD_zero, getD_succ, fieldAt_zero, fieldAt_succ, thenD, blockD, retR, Sv.cells]; done) | (dsimp only [putD, DV.cells, DH.new_next, DH.set_next, List.length_cons, List.length_nil, Nat.reduceAdd, List.set_cons_zero, List.set_cons_succ, getD_zero, getD_succ, fieldAt_zero, fieldAt_succ, thenD, blockD, retR, Sv.cells]; exact rfl) | exact rfl)); (· exact rfl); (· exact rfl); (· assumption); intro b1 H1 hB)
      | (apply bx_alloc; (· exact rfl); (· exact zero49); (· (first | (dsimp only [putD, DV.cells, DH.new_next, DH.set_next, List.length_cons, List.length_nil, Nat.reduceAdd, List.set_cons_zero, List.set_cons_succ, getD_zero, getD_succ, fieldAt_zero, fieldAt_succ, thenD, blockD, retR, Sv.cells]; done) | (dsimp only [putD, DV.cells, DH.new_next, DH.set_next, List.length_cons, List.length_nil, Nat.reduceAdd, List.set_cons_zero, List.set_cons_succ, getD_zero, getD_succ, fieldAt_zero, fieldAt_succ, thenD, blockD, retR, Sv.cells]; exact rfl) | exact rfl)); (· exact rfl); (· exact rfl); (· assumption); intro b1 H1 hB)
      | (apply op_at; (· exact rfl))
      | (apply dwp_cond_f; (· exact rfl); (· (first | with_reducible assumption | with_reducible rfl | decide)))
      | apply dwp_skip
      | apply dwp_ret
      | fail)
    exact hk _ hB.drop1.drop1
/-! ### runes -/
/-- The rune at a text's front, and its width. -/
def decL (l : List UInt8) : Nat × Nat := Utf8.decode ⟨l.toArray⟩ 0
theorem get_drop (s : List UInt8) (i k : Nat) : (ByteArray.mk s.toArray).get! (i + k) = (ByteArray.mk (s.drop i).toArray).get! (0 + k) := by
  show s.toArray[i + k]! = (s.drop i).toArray[0 + k]!
  simp [getElem!_def, List.getElem?_drop]
theorem decode_drop (s : List UInt8) (i : Nat) (hi : i ≤ s.length) : Utf8.decode ⟨s.toArray⟩ i = decL (s.drop i) := by
  unfold decL Utf8.decode
  have hs : ∀ k, (i + k < (ByteArray.mk s.toArray).size) = (0 + k < (ByteArray.mk (s.drop i).toArray).size) := by
    intro k
    show (i + k < s.toArray.size) = (0 + k < (s.drop i).toArray.size)
    simp
    omega
  simp only [get_drop s i, hs]
theorem decL_width {l : List UInt8} (h : l ≠ []) : 1 ≤ (decL l).2 ∧ (decL l).2 ≤ l.length := by
  have hl : 0 < l.length := List.length_pos_iff.mpr h
  have hsz : (ByteArray.mk l.toArray).size = l.length := rfl
  unfold decL Utf8.decode
  simp only [hsz]
  split
  · exact ⟨Nat.le_refl _, hl⟩
  · split
    · rename_i h1
      simp only [Bool.and_eq_true, decide_eq_true_eq] at h1
      split <;> (simp only; omega)
    · split
      · rename_i h1
        simp only [Bool.and_eq_true, decide_eq_true_eq] at h1
        split <;> (simp only; omega)
      · split
        · rename_i h1
          simp only [Bool.and_eq_true, decide_eq_true_eq] at h1
          split <;> (simp only; omega)
        · exact ⟨Nat.le_refl _, hl⟩
theorem get_app (l m : List UInt8) (k : Nat) (h : k < l.length) : (ByteArray.mk (l ++ m).toArray).get! (0 + k) = (ByteArray.mk l.toArray).get! (0 + k) := by
  show (l ++ m).toArray[0 + k]! = l.toArray[0 + k]!
  simp [getElem!_def, List.getElem?_append_left h]
/-- A line's end cuts no rune. -/
theorem decL_app {l m : List UInt8} (h : l ≠ []) : decL (l ++ 10 :: m) = decL l := by
  have hl : 0 < l.length := List.length_pos_iff.mpr h
  have ga : ∀ k, k < l.length → (ByteArray.mk (l ++ 10 :: m).toArray).get! (0 + k) = (ByteArray.mk l.toArray).get! (0 + k) := fun k hk => get_app l _ k hk
  have gb : (ByteArray.mk (l ++ 10 :: m).toArray).get! (0 + l.length) = 10 := by
    show (l ++ 10 :: m).toArray[0 + l.length]! = 10
    simp [getElem!_def]
  have hs : (ByteArray.mk l.toArray).size = l.length := rfl
  have hs' : (ByteArray.mk (l ++ 10 :: m).toArray).size = l.length + (m.length + 1) := by
    show (l ++ 10 :: m).toArray.size = _
    simp
  have t10 : ((10 : UInt8).toNat / 64 == 2) = false := rfl
  unfold decL Utf8.decode
  simp only [hs, hs']
  have g0 := ga 0 hl
  by_cases h1 : l.length = 1
  · rw [h1] at gb ⊢
    simp only [g0, gb, t10, Bool.and_false, Bool.false_and, Nat.reduceAdd, Nat.lt_irrefl, decide_false, Bool.false_eq_true, if_false]
  · have g1 := ga 1 (by omega)
    have d1 : decide (0 + 1 < l.length + (m.length + 1)) = decide (0 + 1 < l.length) := by
      rw [decide_eq_true (by omega), decide_eq_true (by omega)]
    by_cases h2 : l.length = 2
    · rw [h2] at gb d1 ⊢
      simp only [g0, g1, gb, d1, t10, Bool.and_false, Bool.false_and, Nat.reduceAdd, Nat.lt_irrefl, decide_false, Bool.false_eq_true, if_false]
    · have g2 := ga 2 (by omega)
      have d2 : decide (0 + 2 < l.length + (m.length + 1)) = decide (0 + 2 < l.length) := by
        rw [decide_eq_true (by omega), decide_eq_true (by omega)]
      by_cases h3 : l.length = 3
      · rw [h3] at gb d1 d2 ⊢
        simp only [g0, g1, g2, gb, d1, d2, t10, Bool.and_false, Bool.false_and, Nat.reduceAdd, Nat.lt_irrefl, decide_false, Bool.false_eq_true, if_false]
      · have g3 := ga 3 (by omega)
        have d3 : decide (0 + 3 < l.length + (m.length + 1)) = decide (0 + 3 < l.length) := by
          rw [decide_eq_true (by omega), decide_eq_true (by omega)]
        simp only [g0, g1, g2, g3, d1, d2, d3]
/-- Is what stands at a text's front no rune? -/
def badL (l : List UInt8) : Bool := decide ((decL l).1 = 65533) && !([239, 191, 189].isPrefixOf l)
theorem badL_app {l m : List UInt8} (h : l ≠ []) : badL (l ++ 10 :: m) = badL l := by
  unfold badL
  rw [decL_app h]
  congr 2
  match l, h with
  | [a], _ => simp [List.isPrefixOf]
  | [a, b], _ => simp [List.isPrefixOf]
  | a :: b :: c :: t, _ => simp [List.isPrefixOf]
/-- A text's runes, each with the word whether it is none. -/
def runes (l : List UInt8) : List (Int × Bool) :=
  if h : l = [] then [] else ((((decL l).1 : Nat) : Int), badL l) :: runes (l.drop (decL l).2)
termination_by l.length
decreasing_by
  have h1 := decL_width h
  have h2 : 0 < l.length := List.length_pos_iff.mpr h
  rw [List.length_drop]; omega
theorem runes_nil : runes [] = [] := by rw [runes]; simp
theorem runes_cons {l : List UInt8} (h : l ≠ []) : runes l = ((((decL l).1 : Nat) : Int), badL l) :: runes (l.drop (decL l).2) := by
  rw [runes, dif_neg h]
theorem runes_app (m : List UInt8) : ∀ (n : Nat) (l : List UInt8), l.length ≤ n → runes (l ++ 10 :: m) = runes l ++ runes (10 :: m) := by
  intro n
  induction n with
  | zero =>
    intro l hl
    obtain rfl : l = [] := List.length_eq_zero_iff.mp (by omega)
    rw [runes_nil]; rfl
  | succ n ih =>
    intro l hl
    by_cases h : l = []
    · subst h; rw [runes_nil]; rfl
    · have hw := decL_width h
      rw [runes_cons (by simp : l ++ 10 :: m ≠ []), runes_cons h, decL_app h, badL_app h, List.drop_append_of_le_length hw.2, ih _ (by rw [List.length_drop]; omega)]
      rfl
theorem runes_ascii {c : UInt8} (hc : c.toNat < 128) (m : List UInt8) : runes (c :: m) = ((c.toNat : Int), false) :: runes m := by
  have hd : decL (c :: m) = (c.toNat, 1) := decode_ascii (s := c :: m) (k := 0) rfl hc
  have hb : badL (c :: m) = false := by
    unfold badL
    rw [hd]
    have : decide (c.toNat = 65533) = false := by simp; omega
    simp only [this, Bool.false_and]
  rw [runes_cons (by simp), hd, hb]
  rfl
end Go.Det.C

/- A text is cut. -/
namespace Go.Det.C
open Go Go.Det Go.Proofs
set_option maxRecDepth 4000
set_option maxHeartbeats 4000000
set_option linter.unusedVariables false
set_option linter.unusedSimpArgs false
theorem upd_app {b : Nat} {o o' : DObj} {pre l l' : List (Nat × DObj)} (h : Upd b o o' l l') : Upd b o o' (pre ++ l) (pre ++ l') := by
  induction pre with
  | nil => exact h
  | cons x pre ih => exact .there ih
theorem resOf_ttct {P : Program} {H : DH} {a b c d : Tmp} {t : TypeId} {env : List DV} {v : DV} (h : loadD P t H (env.getD c undefD) = some v) : resOf P [.tmp a, .tmp b, .cell c t, .tmp d] env H = some (.tuple [env.getD a undefD, env.getD b undefD, v, env.getD d undefD]) := by
  simp only [resOf, List.map_cons, List.map_nil, h]
  rfl
/-- One rune. -/
noncomputable def stepR (c : Cu) (p : Int × Int) (x : Int × Bool) : Cu := (if x.2 then (c.fin).fail p 4 else c).take p x.1
/-- What is cut out of runes. -/
noncomputable def goR : List (Int × Bool) → Cu → Int × Int → Cu
  | [], c, p => c.fin
  | x :: r, c, p => if (stepR c p x).e = 0 then goR r (stepR c p x) (nextP p x.1) else stepR c p x
def cu0 : Cu := ⟨[], [], [], (0, 0), false, (0, 0), 0⟩
noncomputable def cutF (s : List UInt8) : Cu := goR (runes s) cu0 (1, 1)
theorem take_len (c : Cu) (p : Int × Int) (r : Int) : (c.take p r).toks.length ≤ c.toks.length + 2 ∧ (c.take p r).places.length ≤ c.places.length + 2 ∧ (c.take p r).piece.length ≤ c.piece.length + 1 := by
  unfold Cu.take
  split
  · exact ⟨by omega, by omega, by omega⟩
  · split
    · simp
    · have h := fin_len { c with remark := false }
      simp only at h
      obtain ⟨h1, h2, h3, h4⟩ := h
      simp only
      split
      · rw [h3]; exact ⟨by omega, by omega, by simp⟩
      · split
        · simp only [h3]; exact ⟨by omega, by omega, by simp⟩
        · split
          · unfold Cu.add; simp only [List.length_append, List.length_cons, List.length_nil, h3]; exact ⟨by omega, by omega, by omega⟩
          · split
            · simp only [List.length_append, List.length_cons, List.length_nil, h3]; exact ⟨by omega, by omega, by omega⟩
            · obtain ⟨k1, k2, k3, k4⟩ := fail_same (Cu.fin { c with remark := false }) p 4
              rw [k1, k2, k3, h3]; exact ⟨by omega, by omega, by simp⟩
theorem step_len (c : Cu) (p : Int × Int) (x : Int × Bool) : (stepR c p x).toks.length ≤ c.toks.length + 3 ∧ (stepR c p x).places.length ≤ c.places.length + 3 ∧ (stepR c p x).piece.length ≤ c.piece.length + 1 := by
  unfold stepR
  obtain ⟨h1, h2, h3, h4⟩ := fin_len c
  obtain ⟨k1, k2, k3, k4⟩ := fail_same c.fin p 4
  split
  · obtain ⟨t1, t2, t3⟩ := take_len (c.fin.fail p 4) p x.1
    rw [k1] at t1; rw [k2] at t2; rw [k3, h3] at t3
    simp only [List.length_nil] at t3
    exact ⟨by omega, by omega, by omega⟩
  · obtain ⟨t1, t2, t3⟩ := take_len c p x.1
    exact ⟨by omega, by omega, by omega⟩
section
variable {A H : DH} {bs : List (Nat × DObj)} {fs : List (DH → Prop)} {K : DV → DH → Prop}
theorem cut24 {s : List UInt8} (hs : s.length ≤ 65536) (hB : Bx A H bs fs)
    (hk1 : (cutF s).e ≠ 0 → ∀ H', Bx A H' bs fs → K (.tuple [.sl none 0 0 true, .sl none 0 0 true, .agg [.int .i64 (cutF s).w.1, .int .i64 (cutF s).w.2], .int .i64 (cutF s).e]) H')
    (hk2 : (cutF s).e = 0 → ∀ (s1 s2 : Sv) x1 x2 H', Own1 4 ((cutF s).toks.map Tok.row) s1.dv x1 → Own1 2 ((cutF s).places.map placeRow) s2.dv x2 → Bx A H' (x1 ++ (x2 ++ bs)) fs → K (.tuple [s1.dv, s2.dv, .agg [.int .i64 0, .int .i64 0], .int .i64 0]) H') :
    CallWp Tryd.prog X3 24 [.str s] H K := by
  have hl0 : decide ((s.length : Int) > 65536) = false := by simp; omega
  refine enter rfl Tryd.func24 rfl Tryd.ntmps24 rfl ?_
  dsimp only [List.cons_append, List.nil_append, List.length_cons, List.length_nil, List.replicate_succ, List.replicate_zero, Nat.reduceAdd, Nat.reduceSub]
  repeat' (first
    | dsimp only [putD, DV.cells, DH.new_next, DH.set_next, List.length_cons, List.length_nil, Nat.reduceAdd, List.set_cons_zero, List.set_cons_succ, getD_zero, getD_succ, fieldAt_zero, fieldAt_succ, thenD, blockD, retR]
    | apply dwp_seq
    | apply dwp_region
    | apply ops_nil
    | (apply ops_plain; (· exact rfl))
    | (apply bx_range; (· exact rfl); (· exact rfl); (· exact rfl); (· assumption); intro bi H1 hB)
    | (apply bx_store0; (· exact rfl); (· exact rfl); (· exact rfl); (· assumption); (· (first | (dsimp only [putD, DV.cells, DH.new_next, DH.set_next, List.length_cons, List.length_nil, Nat.reduceAdd, List.set_cons_zero, List.set_cons_succ, getD_zero, getD_succ, fieldAt_zero, fieldAt_succ, thenD, blockD, retR, Sv.cells]; done) | (dsimp only [putD, DV.cells, DH.new_next, DH.set_next, List.length_cons, List.length_nil, Nat.reduceAdd, List.set_cons_zero, List.set_cons_succ, getD_zero, getD_succ, fieldAt_zero, fieldAt_succ, thenD, blockD, retR, Sv.cells]; exact rfl) | exact rfl)); (· (repeat (first | with_reducible exact Upd.here | with_reducible apply Upd.there | with_reducible apply upd_app))); (· exact rfl); (· exact rfl); (· exact rfl); (· exact rfl); intro H1 hB)
    | (apply bx_box; (· exact rfl); (· exact rfl); (· (first | (dsimp only [putD, DV.cells, DH.new_next, DH.set_next, List.length_cons, List.length_nil, Nat.reduceAdd, List.set_cons_zero, List.set_cons_succ, getD_zero, getD_succ, fieldAt_zero, fieldAt_succ, thenD, blockD, retR, Sv.cells]; done) | (dsimp only [putD, DV.cells, DH.new_next, DH.set_next, List.length_cons, List.length_nil, Nat.reduceAdd, List.set_cons_zero, List.set_cons_succ, getD_zero, getD_succ, fieldAt_zero, fieldAt_succ, thenD, blockD, retR, Sv.cells]; exact rfl) | exact rfl)); (· exact rfl); (· exact rfl); (· assumption); intro b1 H1 hB)
    | (apply bx_alloc; (· exact rfl); (· exact zero49); (· (first | (dsimp only [putD, DV.cells, DH.new_next, DH.set_next, List.length_cons, List.length_nil, Nat.reduceAdd, List.set_cons_zero, List.set_cons_succ, getD_zero, getD_succ, fieldAt_zero, fieldAt_succ, thenD, blockD, retR, Sv.cells]; done) | (dsimp only [putD, DV.cells, DH.new_next, DH.set_next, List.length_cons, List.length_nil, Nat.reduceAdd, List.set_cons_zero, List.set_cons_succ, getD_zero, getD_succ, fieldAt_zero, fieldAt_succ, thenD, blockD, retR, Sv.cells]; exact rfl) | exact rfl)); (· exact rfl); (· exact rfl); (· assumption); intro b1 H1 hB)
    | (apply op_at; (· exact rfl))
    | (apply dwp_cond_f; (· exact rfl); (· (first | with_reducible assumption | with_reducible rfl | decide)))
    | apply dwp_block
    | apply dwp_skip
    | fail)
  refine dwp_loop (fun st => ∃ (b4 b6 bi bc : Nat) (H1 : DH) (pos : Nat) (c : Cu) (p : Int × Int), ∃ J : Nat → DV, (Rep A H1 bc c ((bi, .iter s pos) :: (b6, .rows false 2 [[.int .i64 p.1, .int .i64 p.2]]) :: (b4, .rows false 2 [[.int .i64 0, .int .i64 0]]) :: bs) fs ∧ c.e = 0 ∧ pos ≤ s.length ∧ c.toks.length ≤ 3 * pos ∧ c.places.length ≤ 3 * pos ∧ c.piece.length ≤ pos ∧ (0 ≤ p.1 ∧ p.1 ≤ pos + 1 ∧ 0 ≤ p.2 ∧ p.2 ≤ pos + 1) ∧ goR (runes (s.drop pos)) c p = cutF s) ∧ st = ⟨(.str s :: J 1 :: .sl none 0 0 true :: .sl none 0 0 true :: .ptr (some (b4, 0, 0)) :: .int .i64 0 :: .ptr (some (b6, 0, 0)) :: .ptr (some (bc, 0, 0)) :: J 8 :: J 9 :: J 10 :: J 11 :: J 12 :: J 13 :: J 14 :: J 15 :: J 16 :: J 17 :: .ptr (some (bi, 0, 0)) :: J 19 :: J 20 :: J 21 :: J 22 :: J 23 :: J 24 :: J 25 :: J 26 :: J 27 :: J 28 :: J 29 :: J 30 :: J 31 :: J 32 :: J 33 :: J 34 :: J 35 :: J 36 :: J 37 :: J 38 :: J 39 :: J 40 :: J 41 :: J 42 :: J 43 :: J 44 :: J 45 :: J 46 :: J 47 :: J 48 :: J 49 :: J 50 :: J 51 :: J 52 :: J 53 :: J 54 :: J 55 :: J 56 :: J 57 :: J 58 :: J 59 :: J 60 :: J 61 :: J 62 :: J 63 :: J 64 :: J 65 :: J 66 :: J 67 :: J 68 :: J 69 :: J 70 :: J 71 :: J 72 :: J 73 :: J 74 :: J 75 :: J 76 :: J 77 :: J 78 :: J 79 :: J 80 :: []), H1⟩) (fun st => s.length - posOf st 18) (⟨_, _, _, _, _, 0, cu0, (1, 1), junk_facts (⟨Rep.of1 (c := cu0) (s1 := ⟨none, 0, 0, true⟩) (s2 := ⟨none, 0, 0, true⟩) (s3 := ⟨none, 0, 0, true⟩) (x1 := []) (x2 := []) (x3 := []) (.nil rfl) (.nil rfl) (.nil rfl) hB, rfl, Nat.zero_le _, Nat.zero_le _, Nat.zero_le _, Nat.zero_le _, ⟨by decide, by decide, by decide, by decide⟩, rfl⟩) rfl rfl⟩) ?_
  rintro st ⟨b4, b6, bi, bc, H1, pos, c, p, J, ⟨hR, he, hpos, ht, hp, hpc, hpp, hgo⟩, rfl⟩
  by_cases hlt : pos < s.length
  · have hne : s.drop pos ≠ [] := by
      intro h
      have := congrArg List.length h
      rw [List.length_drop] at this
      simp at this
      omega
    obtain ⟨cn, w, hcw⟩ : ∃ cn w, decL (s.drop pos) = (cn, w) := ⟨_, _, rfl⟩
    have hww := decL_width hne
    rw [hcw, List.length_drop] at hww
    simp only at hww
    have hdec : Utf8.decode ⟨s.toArray⟩ pos = (cn, w) := by rw [decode_drop s pos hpos, hcw]
    rw [runes_cons hne, hcw] at hgo
    unfold goR at hgo
    obtain ⟨c1, hc1⟩ : ∃ c1, stepR c p ((cn : Int), badL (s.drop pos)) = c1 := ⟨_, rfl⟩
    simp only [hc1] at hgo
    have hsl := step_len c p ((cn : Int), badL (s.drop pos))
    rw [hc1] at hsl
    unfold stepR at hc1
    have hin : 0 ≤ (pos : Int) ∧ (pos : Int) ≤ (s.length : Int) := by omega
    have hr0 : 0 ≤ (cn : Int) := by omega
    have b1 : c.toks.length + 1 ≤ 1000000 := by omega
    have b2 : c.places.length + 1 ≤ 1000000 := by omega
    have b3 : c.piece.length ≤ 65536 := by omega
    have b4 : 0 ≤ p.1 ∧ p.1 ≤ 1000000 := by omega
    have b5 : 0 ≤ p.2 ∧ p.2 ≤ 1000000 := by omega
    obtain ⟨f1, f2, f3, f4⟩ := fin_len c
    obtain ⟨g1, g2, g3, g4⟩ := fail_same c.fin p 4
    have t1 : c.toks.length + 1 ≤ 900000 := by omega
    have t2 : c.places.length + 1 ≤ 900000 := by omega
    have u1 : (c.fin.fail p 4).toks.length + 1 ≤ 900000 := by rw [g1]; omega
    have u2 : (c.fin.fail p 4).places.length + 1 ≤ 900000 := by rw [g2]; omega
    have u3 : (c.fin.fail p 4).piece.length ≤ 65536 := by rw [g3, f3]; exact Nat.zero_le _
    obtain ⟨s1, s2, s3, x1, x2, x3, o1, o2, o3, hB⟩ := hR.ex
    have hB0 := hB
    have hnx : (pos : Int).toNat = pos := Int.toNat_natCast _
    cases hF : ((cn : Int) == 65533) with
    | true =>
      have hF' : decide (cn = 65533) = true := by
        have h : (cn : Int) = 65533 := by simpa using hF
        simp; omega
      cases hP : [239, 191, 189].isPrefixOf (s.drop pos) with
      | true =>
        have hbad : badL (s.drop pos) = false := by unfold badL; rw [hcw, hP]; simp
        rw [hbad, if_neg (by simp)] at hc1
        cases he1 : (c1.e != 0) with
        | true =>
          have he1' : c1.e ≠ 0 := by simpa using he1
          rw [if_neg he1'] at hgo
          rw [← hgo] at hk1
          repeat' (first
            | dsimp only [putD, DV.cells, DH.new_next, DH.set_next, List.length_cons, List.length_nil, Nat.reduceAdd, List.set_cons_zero, List.set_cons_succ, getD_zero, getD_succ, fieldAt_zero, fieldAt_succ, thenD, blockD, retR]
            | (refine ⟨_, resOf_ttct (loadD_at rfl (Bx.get (by assumption) (by (repeat (first | with_reducible exact At.here | with_reducible apply At.there | with_reducible apply at_app)))) rfl (by (first | exact part57 _ _ _ _ | exact part49 _ _ | exact part49a _ _ _ _ _ _ _ _ _ | exact part49w _ _ _ _ _ _ _ _ _ | exact rfl))), ?_⟩)
            | refine dwp_drawr _ rfl (fun H' => Bx A H' [(bc, .rows false 9 [c1.row s1 s2 s3])] fs) (hB.sub (by (repeat (first | exact List.Sublist.refl _ | exact List.nil_sublist _ | apply List.Sublist.cons_cons | apply List.Sublist.cons | apply List.Sublist.append_left | refine List.Sublist.trans ?_ (List.sublist_append_right _ _))))) ?_
            | apply drawr_nil
            | (apply drawr_read; (· (first | exact wanted_plain rfl | (apply wanted_on; (· exact rfl); (· exact rfl); (· (first | with_reducible assumption | with_reducible rfl | decide))))); (· exact rfl); (· exact rfl); (· intro H' h; have h : Bx _ H' _ _ := h; exact opD_load rfl rfl (h.get (by (repeat (first | with_reducible exact At.here | with_reducible apply At.there | with_reducible apply at_app)))) rfl (by (first | exact part57 _ _ _ _ | exact part49 _ _ | exact part49a _ _ _ _ _ _ _ _ _ | exact part49w _ _ _ _ _ _ _ _ _ | exact rfl))))
            | (apply drawr_pure; (· (first | exact wanted_plain rfl | (apply wanted_on; (· exact rfl); (· exact rfl); (· (first | with_reducible assumption | with_reducible rfl | decide))))); (· exact rfl); (· exact rfl); (· exact rfl))
            | (apply drawr_move; (· (first | exact wanted_plain rfl | (apply wanted_on; (· exact rfl); (· exact rfl); (· (first | with_reducible assumption | with_reducible rfl | decide))))); (· exact rfl))
            | refine ⟨(hB.sub (by (repeat (first | exact List.Sublist.refl _ | exact List.nil_sublist _ | apply List.Sublist.cons_cons | apply List.Sublist.cons | apply List.Sublist.append_left | refine List.Sublist.trans ?_ (List.sublist_append_right _ _))))), ?_⟩
            | apply dwp_seq
            | apply dwp_region
            | apply ops_nil
            | (apply ops_plain; (· exact rfl))
            | (apply ops_on; (· exact rfl); (· exact rfl); (· (first | with_reducible assumption | with_reducible rfl | decide)))
            | (apply op_call; (· exact rfl); (· exact rfl); (· exact rfl); (refine (CallWp.up up03 (hasPrefix53 _ _ _)).mono ?_; rintro r0 H' ⟨rfl, rfl⟩; rw [hnx, hP]))
            | (apply op_call; (· exact rfl); (· exact rfl); (· exact rfl); (apply take56 (c := c); (· exact hr0); (· exact t1); (· exact t2); (· exact b3); (· exact (⟨s1, s2, s3, x1, x2, x3, o1, o2, o3, hB⟩ : Rep _ _ _ c _ _)); intro r1 H1 hR1; replace hR1 : Rep _ _ _ c1 _ _ := hc1 ▸ hR1; obtain ⟨s1, s2, s3, x1, x2, x3, o1, o2, o3, hB⟩ := hR1.ex))
            | (apply op_pick_t; (· exact rfl); (· exact rfl); (· (first | with_reducible assumption | with_reducible rfl | decide)); (· exact rfl))
            | (apply bx_next (c := cn) (w := w); (· exact rfl); (· exact rfl); (· assumption); (· (repeat (first | with_reducible exact Upd.here | with_reducible apply Upd.there | with_reducible apply upd_app))); (· exact hlt); (· exact hdec); intro H1 hB)
            | (apply op_at; (· exact opD_strDrop rfl rfl rfl rfl hin))
            | (apply bx_load0; (· exact rfl); (· exact rfl); (· assumption); (· (repeat (first | with_reducible exact At.here | with_reducible apply At.there | with_reducible apply at_app))); (· (first | exact part57 _ _ _ _ | exact part49 _ _ | exact part49a _ _ _ _ _ _ _ _ _ | exact part49w _ _ _ _ _ _ _ _ _ | exact rfl)))
            | (apply bx_store0; (· exact rfl); (· exact rfl); (· exact rfl); (· assumption); (· (first | (dsimp only [putD, DV.cells, DH.new_next, DH.set_next, List.length_cons, List.length_nil, Nat.reduceAdd, List.set_cons_zero, List.set_cons_succ, getD_zero, getD_succ, fieldAt_zero, fieldAt_succ, thenD, blockD, retR, Sv.cells]; done) | (dsimp only [putD, DV.cells, DH.new_next, DH.set_next, List.length_cons, List.length_nil, Nat.reduceAdd, List.set_cons_zero, List.set_cons_succ, getD_zero, getD_succ, fieldAt_zero, fieldAt_succ, thenD, blockD, retR, Sv.cells]; exact rfl) | exact rfl)); (· (repeat (first | with_reducible exact Upd.here | with_reducible apply Upd.there | with_reducible apply upd_app))); (· exact rfl); (· exact rfl); (· exact rfl); (· exact rfl); intro H1 hB)
            | (apply op_at; (· exact rfl))
            | (apply dwp_cond_t; (· exact rfl); (· (first | with_reducible assumption | with_reducible rfl | decide)))
            | (apply dwp_cond_f; (· exact rfl); (· (first | with_reducible assumption | with_reducible rfl | decide)))
            | apply dwp_block
            | apply dwp_skip
            | apply dwp_ret
            | fail)
          exact hk1 he1' _ (hB.sub (by (repeat (first | exact List.Sublist.refl _ | exact List.nil_sublist _ | apply List.Sublist.cons_cons | apply List.Sublist.cons | apply List.Sublist.append_left | refine List.Sublist.trans ?_ (List.sublist_append_right _ _)))))
        | false =>
          have he1' : c1.e = 0 := by simpa using he1
          rw [if_pos he1', List.drop_drop] at hgo
          repeat' (first
            | dsimp only [putD, DV.cells, DH.new_next, DH.set_next, List.length_cons, List.length_nil, Nat.reduceAdd, List.set_cons_zero, List.set_cons_succ, getD_zero, getD_succ, fieldAt_zero, fieldAt_succ, thenD, blockD, retR]
            | apply dwp_seq
            | apply dwp_region
            | apply ops_nil
            | (apply ops_plain; (· exact rfl))
            | (apply ops_on; (· exact rfl); (· exact rfl); (· (first | with_reducible assumption | with_reducible rfl | decide)))
            | (apply op_call; (· exact rfl); (· exact rfl); (· exact rfl); (refine (CallWp.up up03 (hasPrefix53 _ _ _)).mono ?_; rintro r0 H' ⟨rfl, rfl⟩; rw [hnx, hP]))
            | (apply op_call; (· exact rfl); (· exact rfl); (· exact rfl); (apply take56 (c := c); (· exact hr0); (· exact t1); (· exact t2); (· exact b3); (· exact (⟨s1, s2, s3, x1, x2, x3, o1, o2, o3, hB⟩ : Rep _ _ _ c _ _)); intro r1 H1 hR1; replace hR1 : Rep _ _ _ c1 _ _ := hc1 ▸ hR1; obtain ⟨s1, s2, s3, x1, x2, x3, o1, o2, o3, hB⟩ := hR1.ex))
            | (apply op_call; (· exact rfl); (· exact rfl); (· exact rfl); (apply next57; (· exact b4); (· exact b5); (· assumption); intro H1 hB))
            | (apply op_pick_t; (· exact rfl); (· exact rfl); (· (first | with_reducible assumption | with_reducible rfl | decide)); (· exact rfl))
            | (apply bx_next (c := cn) (w := w); (· exact rfl); (· exact rfl); (· assumption); (· (repeat (first | with_reducible exact Upd.here | with_reducible apply Upd.there | with_reducible apply upd_app))); (· exact hlt); (· exact hdec); intro H1 hB)
            | (apply op_at; (· exact opD_strDrop rfl rfl rfl rfl hin))
            | (apply bx_load0; (· exact rfl); (· exact rfl); (· assumption); (· (repeat (first | with_reducible exact At.here | with_reducible apply At.there | with_reducible apply at_app))); (· (first | exact part57 _ _ _ _ | exact part49 _ _ | exact part49a _ _ _ _ _ _ _ _ _ | exact part49w _ _ _ _ _ _ _ _ _ | exact rfl)))
            | (apply bx_store0; (· exact rfl); (· exact rfl); (· exact rfl); (· assumption); (· (first | (dsimp only [putD, DV.cells, DH.new_next, DH.set_next, List.length_cons, List.length_nil, Nat.reduceAdd, List.set_cons_zero, List.set_cons_succ, getD_zero, getD_succ, fieldAt_zero, fieldAt_succ, thenD, blockD, retR, Sv.cells]; done) | (dsimp only [putD, DV.cells, DH.new_next, DH.set_next, List.length_cons, List.length_nil, Nat.reduceAdd, List.set_cons_zero, List.set_cons_succ, getD_zero, getD_succ, fieldAt_zero, fieldAt_succ, thenD, blockD, retR, Sv.cells]; exact rfl) | exact rfl)); (· (repeat (first | with_reducible exact Upd.here | with_reducible apply Upd.there | with_reducible apply upd_app))); (· exact rfl); (· exact rfl); (· exact rfl); (· exact rfl); intro H1 hB)
            | (apply op_at; (· exact rfl))
            | (apply dwp_cond_t; (· exact rfl); (· (first | with_reducible assumption | with_reducible rfl | decide)))
            | (apply dwp_cond_f; (· exact rfl); (· (first | with_reducible assumption | with_reducible rfl | decide)))
            | apply dwp_block
            | apply dwp_skip
            | fail)
          refine ⟨⟨_, _, _, _, _, pos + w, c1, nextP p (cn : Int), junk_facts ⟨⟨s1, s2, s3, x1, x2, x3, o1, o2, o3, hB⟩, he1', by omega, by omega, by omega, by omega, by unfold nextP; split <;> (simp only; omega), hgo⟩ rfl rfl⟩, ?_⟩
          rw [posOf_at rfl (hB.get (by (repeat (first | with_reducible exact At.here | with_reducible apply At.there | with_reducible apply at_app)))), posOf_at rfl (hB0.get (by (repeat (first | with_reducible exact At.here | with_reducible apply At.there | with_reducible apply at_app))))]
          omega
      | false =>
        have hbad : badL (s.drop pos) = true := by unfold badL; rw [hcw, hP]; simpa using hF'
        rw [hbad, if_pos rfl] at hc1
        cases he1 : (c1.e != 0) with
        | true =>
          have he1' : c1.e ≠ 0 := by simpa using he1
          rw [if_neg he1'] at hgo
          rw [← hgo] at hk1
          repeat' (first
            | dsimp only [putD, DV.cells, DH.new_next, DH.set_next, List.length_cons, List.length_nil, Nat.reduceAdd, List.set_cons_zero, List.set_cons_succ, getD_zero, getD_succ, fieldAt_zero, fieldAt_succ, thenD, blockD, retR]
            | (refine ⟨_, resOf_ttct (loadD_at rfl (Bx.get (by assumption) (by (repeat (first | with_reducible exact At.here | with_reducible apply At.there | with_reducible apply at_app)))) rfl (by (first | exact part57 _ _ _ _ | exact part49 _ _ | exact part49a _ _ _ _ _ _ _ _ _ | exact part49w _ _ _ _ _ _ _ _ _ | exact rfl))), ?_⟩)
            | refine dwp_drawr _ rfl (fun H' => Bx A H' [(bc, .rows false 9 [c1.row s1 s2 s3])] fs) (hB.sub (by (repeat (first | exact List.Sublist.refl _ | exact List.nil_sublist _ | apply List.Sublist.cons_cons | apply List.Sublist.cons | apply List.Sublist.append_left | refine List.Sublist.trans ?_ (List.sublist_append_right _ _))))) ?_
            | apply drawr_nil
            | (apply drawr_read; (· (first | exact wanted_plain rfl | (apply wanted_on; (· exact rfl); (· exact rfl); (· (first | with_reducible assumption | with_reducible rfl | decide))))); (· exact rfl); (· exact rfl); (· intro H' h; have h : Bx _ H' _ _ := h; exact opD_load rfl rfl (h.get (by (repeat (first | with_reducible exact At.here | with_reducible apply At.there | with_reducible apply at_app)))) rfl (by (first | exact part57 _ _ _ _ | exact part49 _ _ | exact part49a _ _ _ _ _ _ _ _ _ | exact part49w _ _ _ _ _ _ _ _ _ | exact rfl))))
            | (apply drawr_pure; (· (first | exact wanted_plain rfl | (apply wanted_on; (· exact rfl); (· exact rfl); (· (first | with_reducible assumption | with_reducible rfl | decide))))); (· exact rfl); (· exact rfl); (· exact rfl))
            | (apply drawr_move; (· (first | exact wanted_plain rfl | (apply wanted_on; (· exact rfl); (· exact rfl); (· (first | with_reducible assumption | with_reducible rfl | decide))))); (· exact rfl))
            | refine ⟨(hB.sub (by (repeat (first | exact List.Sublist.refl _ | exact List.nil_sublist _ | apply List.Sublist.cons_cons | apply List.Sublist.cons | apply List.Sublist.append_left | refine List.Sublist.trans ?_ (List.sublist_append_right _ _))))), ?_⟩
            | apply dwp_seq
            | apply dwp_region
            | apply ops_nil
            | (apply ops_plain; (· exact rfl))
            | (apply ops_on; (· exact rfl); (· exact rfl); (· (first | with_reducible assumption | with_reducible rfl | decide)))
            | (apply op_call; (· exact rfl); (· exact rfl); (· exact rfl); (refine (CallWp.up up03 (hasPrefix53 _ _ _)).mono ?_; rintro r0 H' ⟨rfl, rfl⟩; rw [hnx, hP]))
            | (apply op_call; (· exact rfl); (· exact rfl); (· exact rfl); (apply end54 (c := c); (· exact b1); (· exact b2); (· exact b3); (· exact (⟨s1, s2, s3, x1, x2, x3, o1, o2, o3, hB⟩ : Rep _ _ _ c _ _)); intro r1 H1 hR1; obtain ⟨s1, s2, s3, x1, x2, x3, o1, o2, o3, hB⟩ := hR1.ex))
            | (apply op_call; (· exact rfl); (· exact rfl); (· exact rfl); (apply fail55 (c := c.fin); (· exact (⟨s1, s2, s3, x1, x2, x3, o1, o2, o3, hB⟩ : Rep _ _ _ c.fin _ _)); intro r1 H1 hR1; obtain ⟨s1, s2, s3, x1, x2, x3, o1, o2, o3, hB⟩ := hR1.ex))
            | (apply op_call; (· exact rfl); (· exact rfl); (· exact rfl); (apply take56 (c := c.fin.fail p 4); (· exact hr0); (· exact u1); (· exact u2); (· exact u3); (· exact (⟨s1, s2, s3, x1, x2, x3, o1, o2, o3, hB⟩ : Rep _ _ _ (c.fin.fail p 4) _ _)); intro r1 H1 hR1; replace hR1 : Rep _ _ _ c1 _ _ := hc1 ▸ hR1; obtain ⟨s1, s2, s3, x1, x2, x3, o1, o2, o3, hB⟩ := hR1.ex))
            | (apply op_pick_t; (· exact rfl); (· exact rfl); (· (first | with_reducible assumption | with_reducible rfl | decide)); (· exact rfl))
            | (apply bx_next (c := cn) (w := w); (· exact rfl); (· exact rfl); (· assumption); (· (repeat (first | with_reducible exact Upd.here | with_reducible apply Upd.there | with_reducible apply upd_app))); (· exact hlt); (· exact hdec); intro H1 hB)
            | (apply op_at; (· exact opD_strDrop rfl rfl rfl rfl hin))
            | (apply bx_load0; (· exact rfl); (· exact rfl); (· assumption); (· (repeat (first | with_reducible exact At.here | with_reducible apply At.there | with_reducible apply at_app))); (· (first | exact part57 _ _ _ _ | exact part49 _ _ | exact part49a _ _ _ _ _ _ _ _ _ | exact part49w _ _ _ _ _ _ _ _ _ | exact rfl)))
            | (apply bx_store0; (· exact rfl); (· exact rfl); (· exact rfl); (· assumption); (· (first | (dsimp only [putD, DV.cells, DH.new_next, DH.set_next, List.length_cons, List.length_nil, Nat.reduceAdd, List.set_cons_zero, List.set_cons_succ, getD_zero, getD_succ, fieldAt_zero, fieldAt_succ, thenD, blockD, retR, Sv.cells]; done) | (dsimp only [putD, DV.cells, DH.new_next, DH.set_next, List.length_cons, List.length_nil, Nat.reduceAdd, List.set_cons_zero, List.set_cons_succ, getD_zero, getD_succ, fieldAt_zero, fieldAt_succ, thenD, blockD, retR, Sv.cells]; exact rfl) | exact rfl)); (· (repeat (first | with_reducible exact Upd.here | with_reducible apply Upd.there | with_reducible apply upd_app))); (· exact rfl); (· exact rfl); (· exact rfl); (· exact rfl); intro H1 hB)
            | (apply op_at; (· exact rfl))
            | (apply dwp_cond_t; (· exact rfl); (· (first | with_reducible assumption | with_reducible rfl | decide)))
            | apply dwp_block
            | apply dwp_skip
            | apply dwp_ret
            | fail)
          exact hk1 he1' _ (hB.sub (by (repeat (first | exact List.Sublist.refl _ | exact List.nil_sublist _ | apply List.Sublist.cons_cons | apply List.Sublist.cons | apply List.Sublist.append_left | refine List.Sublist.trans ?_ (List.sublist_append_right _ _)))))
        | false =>
          have he1' : c1.e = 0 := by simpa using he1
          rw [if_pos he1', List.drop_drop] at hgo
          repeat' (first
            | dsimp only [putD, DV.cells, DH.new_next, DH.set_next, List.length_cons, List.length_nil, Nat.reduceAdd, List.set_cons_zero, List.set_cons_succ, getD_zero, getD_succ, fieldAt_zero, fieldAt_succ, thenD, blockD, retR]
            | apply dwp_seq
            | apply dwp_region
            | apply ops_nil
            | (apply ops_plain; (· exact rfl))
            | (apply ops_on; (· exact rfl); (· exact rfl); (· (first | with_reducible assumption | with_reducible rfl | decide)))
            | (apply op_call; (· exact rfl); (· exact rfl); (· exact rfl); (refine (CallWp.up up03 (hasPrefix53 _ _ _)).mono ?_; rintro r0 H' ⟨rfl, rfl⟩; rw [hnx, hP]))
            | (apply op_call; (· exact rfl); (· exact rfl); (· exact rfl); (apply end54 (c := c); (· exact b1); (· exact b2); (· exact b3); (· exact (⟨s1, s2, s3, x1, x2, x3, o1, o2, o3, hB⟩ : Rep _ _ _ c _ _)); intro r1 H1 hR1; obtain ⟨s1, s2, s3, x1, x2, x3, o1, o2, o3, hB⟩ := hR1.ex))
            | (apply op_call; (· exact rfl); (· exact rfl); (· exact rfl); (apply fail55 (c := c.fin); (· exact (⟨s1, s2, s3, x1, x2, x3, o1, o2, o3, hB⟩ : Rep _ _ _ c.fin _ _)); intro r1 H1 hR1; obtain ⟨s1, s2, s3, x1, x2, x3, o1, o2, o3, hB⟩ := hR1.ex))
            | (apply op_call; (· exact rfl); (· exact rfl); (· exact rfl); (apply take56 (c := c.fin.fail p 4); (· exact hr0); (· exact u1); (· exact u2); (· exact u3); (· exact (⟨s1, s2, s3, x1, x2, x3, o1, o2, o3, hB⟩ : Rep _ _ _ (c.fin.fail p 4) _ _)); intro r1 H1 hR1; replace hR1 : Rep _ _ _ c1 _ _ := hc1 ▸ hR1; obtain ⟨s1, s2, s3, x1, x2, x3, o1, o2, o3, hB⟩ := hR1.ex))
            | (apply op_call; (· exact rfl); (· exact rfl); (· exact rfl); (apply next57; (· exact b4); (· exact b5); (· assumption); intro H1 hB))
            | (apply op_pick_t; (· exact rfl); (· exact rfl); (· (first | with_reducible assumption | with_reducible rfl | decide)); (· exact rfl))
            | (apply bx_next (c := cn) (w := w); (· exact rfl); (· exact rfl); (· assumption); (· (repeat (first | with_reducible exact Upd.here | with_reducible apply Upd.there | with_reducible apply upd_app))); (· exact hlt); (· exact hdec); intro H1 hB)
            | (apply op_at; (· exact opD_strDrop rfl rfl rfl rfl hin))
            | (apply bx_load0; (· exact rfl); (· exact rfl); (· assumption); (· (repeat (first | with_reducible exact At.here | with_reducible apply At.there | with_reducible apply at_app))); (· (first | exact part57 _ _ _ _ | exact part49 _ _ | exact part49a _ _ _ _ _ _ _ _ _ | exact part49w _ _ _ _ _ _ _ _ _ | exact rfl)))
            | (apply bx_store0; (· exact rfl); (· exact rfl); (· exact rfl); (· assumption); (· (first | (dsimp only [putD, DV.cells, DH.new_next, DH.set_next, List.length_cons, List.length_nil, Nat.reduceAdd, List.set_cons_zero, List.set_cons_succ, getD_zero, getD_succ, fieldAt_zero, fieldAt_succ, thenD, blockD, retR, Sv.cells]; done) | (dsimp only [putD, DV.cells, DH.new_next, DH.set_next, List.length_cons, List.length_nil, Nat.reduceAdd, List.set_cons_zero, List.set_cons_succ, getD_zero, getD_succ, fieldAt_zero, fieldAt_succ, thenD, blockD, retR, Sv.cells]; exact rfl) | exact rfl)); (· (repeat (first | with_reducible exact Upd.here | with_reducible apply Upd.there | with_reducible apply upd_app))); (· exact rfl); (· exact rfl); (· exact rfl); (· exact rfl); intro H1 hB)
            | (apply op_at; (· exact rfl))
            | (apply dwp_cond_t; (· exact rfl); (· (first | with_reducible assumption | with_reducible rfl | decide)))
            | (apply dwp_cond_f; (· exact rfl); (· (first | with_reducible assumption | with_reducible rfl | decide)))
            | apply dwp_block
            | apply dwp_skip
            | fail)
          refine ⟨⟨_, _, _, _, _, pos + w, c1, nextP p (cn : Int), junk_facts ⟨⟨s1, s2, s3, x1, x2, x3, o1, o2, o3, hB⟩, he1', by omega, by omega, by omega, by omega, by unfold nextP; split <;> (simp only; omega), hgo⟩ rfl rfl⟩, ?_⟩
          rw [posOf_at rfl (hB.get (by (repeat (first | with_reducible exact At.here | with_reducible apply At.there | with_reducible apply at_app)))), posOf_at rfl (hB0.get (by (repeat (first | with_reducible exact At.here | with_reducible apply At.there | with_reducible apply at_app))))]
          omega
    | false =>
      have hF' : decide (cn = 65533) = false := by
        have h : ¬ (cn : Int) = 65533 := by simpa using hF
        simp; omega
      have hbad : badL (s.drop pos) = false := by unfold badL; rw [hcw]; simp only [hF', Bool.false_and]
      rw [hbad, if_neg (by simp)] at hc1
      cases he1 : (c1.e != 0) with
      | true =>
        have he1' : c1.e ≠ 0 := by simpa using he1
        rw [if_neg he1'] at hgo
        rw [← hgo] at hk1
        repeat' (first
          | dsimp only [putD, DV.cells, DH.new_next, DH.set_next, List.length_cons, List.length_nil, Nat.reduceAdd, List.set_cons_zero, List.set_cons_succ, getD_zero, getD_succ, fieldAt_zero, fieldAt_succ, thenD, blockD, retR]
          | (refine ⟨_, resOf_ttct (loadD_at rfl (Bx.get (by assumption) (by (repeat (first | with_reducible exact At.here | with_reducible apply At.there | with_reducible apply at_app)))) rfl (by (first | exact part57 _ _ _ _ | exact part49 _ _ | exact part49a _ _ _ _ _ _ _ _ _ | exact part49w _ _ _ _ _ _ _ _ _ | exact rfl))), ?_⟩)
          | refine dwp_drawr _ rfl (fun H' => Bx A H' [(bc, .rows false 9 [c1.row s1 s2 s3])] fs) (hB.sub (by (repeat (first | exact List.Sublist.refl _ | exact List.nil_sublist _ | apply List.Sublist.cons_cons | apply List.Sublist.cons | apply List.Sublist.append_left | refine List.Sublist.trans ?_ (List.sublist_append_right _ _))))) ?_
          | apply drawr_nil
          | (apply drawr_read; (· (first | exact wanted_plain rfl | (apply wanted_on; (· exact rfl); (· exact rfl); (· (first | with_reducible assumption | with_reducible rfl | decide))))); (· exact rfl); (· exact rfl); (· intro H' h; have h : Bx _ H' _ _ := h; exact opD_load rfl rfl (h.get (by (repeat (first | with_reducible exact At.here | with_reducible apply At.there | with_reducible apply at_app)))) rfl (by (first | exact part57 _ _ _ _ | exact part49 _ _ | exact part49a _ _ _ _ _ _ _ _ _ | exact part49w _ _ _ _ _ _ _ _ _ | exact rfl))))
          | (apply drawr_pure; (· (first | exact wanted_plain rfl | (apply wanted_on; (· exact rfl); (· exact rfl); (· (first | with_reducible assumption | with_reducible rfl | decide))))); (· exact rfl); (· exact rfl); (· exact rfl))
          | (apply drawr_move; (· (first | exact wanted_plain rfl | (apply wanted_on; (· exact rfl); (· exact rfl); (· (first | with_reducible assumption | with_reducible rfl | decide))))); (· exact rfl))
          | refine ⟨(hB.sub (by (repeat (first | exact List.Sublist.refl _ | exact List.nil_sublist _ | apply List.Sublist.cons_cons | apply List.Sublist.cons | apply List.Sublist.append_left | refine List.Sublist.trans ?_ (List.sublist_append_right _ _))))), ?_⟩
          | apply dwp_seq
          | apply dwp_region
          | apply ops_nil
          | (apply ops_plain; (· exact rfl))
          | (apply ops_off1; (· exact rfl); (· exact rfl); (· (first | with_reducible assumption | with_reducible rfl | decide)))
          | (apply op_call; (· exact rfl); (· exact rfl); (· exact rfl); (apply take56 (c := c); (· exact hr0); (· exact t1); (· exact t2); (· exact b3); (· exact (⟨s1, s2, s3, x1, x2, x3, o1, o2, o3, hB⟩ : Rep _ _ _ c _ _)); intro r1 H1 hR1; replace hR1 : Rep _ _ _ c1 _ _ := hc1 ▸ hR1; obtain ⟨s1, s2, s3, x1, x2, x3, o1, o2, o3, hB⟩ := hR1.ex))
          | (apply op_pick_f; (· exact rfl); (· exact rfl); (· (first | with_reducible assumption | with_reducible rfl | decide)); (· exact rfl))
          | (apply bx_next (c := cn) (w := w); (· exact rfl); (· exact rfl); (· assumption); (· (repeat (first | with_reducible exact Upd.here | with_reducible apply Upd.there | with_reducible apply upd_app))); (· exact hlt); (· exact hdec); intro H1 hB)
          | (apply bx_load0; (· exact rfl); (· exact rfl); (· assumption); (· (repeat (first | with_reducible exact At.here | with_reducible apply At.there | with_reducible apply at_app))); (· (first | exact part57 _ _ _ _ | exact part49 _ _ | exact part49a _ _ _ _ _ _ _ _ _ | exact part49w _ _ _ _ _ _ _ _ _ | exact rfl)))
          | (apply bx_store0; (· exact rfl); (· exact rfl); (· exact rfl); (· assumption); (· (first | (dsimp only [putD, DV.cells, DH.new_next, DH.set_next, List.length_cons, List.length_nil, Nat.reduceAdd, List.set_cons_zero, List.set_cons_succ, getD_zero, getD_succ, fieldAt_zero, fieldAt_succ, thenD, blockD, retR, Sv.cells]; done) | (dsimp only [putD, DV.cells, DH.new_next, DH.set_next, List.length_cons, List.length_nil, Nat.reduceAdd, List.set_cons_zero, List.set_cons_succ, getD_zero, getD_succ, fieldAt_zero, fieldAt_succ, thenD, blockD, retR, Sv.cells]; exact rfl) | exact rfl)); (· (repeat (first | with_reducible exact Upd.here | with_reducible apply Upd.there | with_reducible apply upd_app))); (· exact rfl); (· exact rfl); (· exact rfl); (· exact rfl); intro H1 hB)
          | (apply op_at; (· exact rfl))
          | (apply dwp_cond_t; (· exact rfl); (· (first | with_reducible assumption | with_reducible rfl | decide)))
          | (apply dwp_cond_f; (· exact rfl); (· (first | with_reducible assumption | with_reducible rfl | decide)))
          | apply dwp_block
          | apply dwp_skip
          | apply dwp_ret
          | fail)
        exact hk1 he1' _ (hB.sub (by (repeat (first | exact List.Sublist.refl _ | exact List.nil_sublist _ | apply List.Sublist.cons_cons | apply List.Sublist.cons | apply List.Sublist.append_left | refine List.Sublist.trans ?_ (List.sublist_append_right _ _)))))
      | false =>
        have he1' : c1.e = 0 := by simpa using he1
        rw [if_pos he1', List.drop_drop] at hgo
        repeat' (first
          | dsimp only [putD, DV.cells, DH.new_next, DH.set_next, List.length_cons, List.length_nil, Nat.reduceAdd, List.set_cons_zero, List.set_cons_succ, getD_zero, getD_succ, fieldAt_zero, fieldAt_succ, thenD, blockD, retR]
          | apply dwp_seq
          | apply dwp_region
          | apply ops_nil
          | (apply ops_plain; (· exact rfl))
          | (apply ops_off1; (· exact rfl); (· exact rfl); (· (first | with_reducible assumption | with_reducible rfl | decide)))
          | (apply op_call; (· exact rfl); (· exact rfl); (· exact rfl); (apply take56 (c := c); (· exact hr0); (· exact t1); (· exact t2); (· exact b3); (· exact (⟨s1, s2, s3, x1, x2, x3, o1, o2, o3, hB⟩ : Rep _ _ _ c _ _)); intro r1 H1 hR1; replace hR1 : Rep _ _ _ c1 _ _ := hc1 ▸ hR1; obtain ⟨s1, s2, s3, x1, x2, x3, o1, o2, o3, hB⟩ := hR1.ex))
          | (apply op_call; (· exact rfl); (· exact rfl); (· exact rfl); (apply next57; (· exact b4); (· exact b5); (· assumption); intro H1 hB))
          | (apply op_pick_f; (· exact rfl); (· exact rfl); (· (first | with_reducible assumption | with_reducible rfl | decide)); (· exact rfl))
          | (apply bx_next (c := cn) (w := w); (· exact rfl); (· exact rfl); (· assumption); (· (repeat (first | with_reducible exact Upd.here | with_reducible apply Upd.there | with_reducible apply upd_app))); (· exact hlt); (· exact hdec); intro H1 hB)
          | (apply bx_load0; (· exact rfl); (· exact rfl); (· assumption); (· (repeat (first | with_reducible exact At.here | with_reducible apply At.there | with_reducible apply at_app))); (· (first | exact part57 _ _ _ _ | exact part49 _ _ | exact part49a _ _ _ _ _ _ _ _ _ | exact part49w _ _ _ _ _ _ _ _ _ | exact rfl)))
          | (apply bx_store0; (· exact rfl); (· exact rfl); (· exact rfl); (· assumption); (· (first | (dsimp only [putD, DV.cells, DH.new_next, DH.set_next, List.length_cons, List.length_nil, Nat.reduceAdd, List.set_cons_zero, List.set_cons_succ, getD_zero, getD_succ, fieldAt_zero, fieldAt_succ, thenD, blockD, retR, Sv.cells]; done) | (dsimp only [putD, DV.cells, DH.new_next, DH.set_next, List.length_cons, List.length_nil, Nat.reduceAdd, List.set_cons_zero, List.set_cons_succ, getD_zero, getD_succ, fieldAt_zero, fieldAt_succ, thenD, blockD, retR, Sv.cells]; exact rfl) | exact rfl)); (· (repeat (first | with_reducible exact Upd.here | with_reducible apply Upd.there | with_reducible apply upd_app))); (· exact rfl); (· exact rfl); (· exact rfl); (· exact rfl); intro H1 hB)
          | (apply op_at; (· exact rfl))
          | (apply dwp_cond_t; (· exact rfl); (· (first | with_reducible assumption | with_reducible rfl | decide)))
          | (apply dwp_cond_f; (· exact rfl); (· (first | with_reducible assumption | with_reducible rfl | decide)))
          | apply dwp_block
          | apply dwp_skip
          | fail)
        refine ⟨⟨_, _, _, _, _, pos + w, c1, nextP p (cn : Int), junk_facts ⟨⟨s1, s2, s3, x1, x2, x3, o1, o2, o3, hB⟩, he1', by omega, by omega, by omega, by omega, by unfold nextP; split <;> (simp only; omega), hgo⟩ rfl rfl⟩, ?_⟩
        rw [posOf_at rfl (hB.get (by (repeat (first | with_reducible exact At.here | with_reducible apply At.there | with_reducible apply at_app)))), posOf_at rfl (hB0.get (by (repeat (first | with_reducible exact At.here | with_reducible apply At.there | with_reducible apply at_app))))]
        omega
  · have hnil : s.drop pos = [] := List.drop_eq_nil_of_le (by omega)
    rw [hnil, runes_nil] at hgo
    unfold goR at hgo
    have b1 : c.toks.length + 1 ≤ 1000000 := by omega
    have b2 : c.places.length + 1 ≤ 1000000 := by omega
    have b3 : c.piece.length ≤ 65536 := by omega
    obtain ⟨s1, s2, s3, x1, x2, x3, o1, o2, o3, hB⟩ := hR.ex
    cases he1 : ((cutF s).e != 0) with
    | true =>
      have he1' : (cutF s).e ≠ 0 := by simpa using he1
      repeat' (first
        | dsimp only [putD, DV.cells, DH.new_next, DH.set_next, List.length_cons, List.length_nil, Nat.reduceAdd, List.set_cons_zero, List.set_cons_succ, getD_zero, getD_succ, fieldAt_zero, fieldAt_succ, thenD, blockD, retR]
        | (refine ⟨_, resOf_ttct (loadD_at rfl (Bx.get (by assumption) (by (repeat (first | with_reducible exact At.here | with_reducible apply At.there | with_reducible apply at_app)))) rfl (by (first | exact part57 _ _ _ _ | exact part49 _ _ | exact part49a _ _ _ _ _ _ _ _ _ | exact part49w _ _ _ _ _ _ _ _ _ | exact rfl))), ?_⟩)
        | refine dwp_drawr _ rfl (fun H' => Bx A H' [(bc, .rows false 9 [(cutF s).row s1 s2 s3])] fs) (hB.sub (by (repeat (first | exact List.Sublist.refl _ | exact List.nil_sublist _ | apply List.Sublist.cons_cons | apply List.Sublist.cons | apply List.Sublist.append_left | refine List.Sublist.trans ?_ (List.sublist_append_right _ _))))) ?_
        | apply drawr_nil
        | (apply drawr_read; (· (first | exact wanted_plain rfl | (apply wanted_on; (· exact rfl); (· exact rfl); (· (first | with_reducible assumption | with_reducible rfl | decide))))); (· exact rfl); (· exact rfl); (· intro H' h; have h : Bx _ H' _ _ := h; exact opD_load rfl rfl (h.get (by (repeat (first | with_reducible exact At.here | with_reducible apply At.there | with_reducible apply at_app)))) rfl (by (first | exact part57 _ _ _ _ | exact part49 _ _ | exact part49a _ _ _ _ _ _ _ _ _ | exact part49w _ _ _ _ _ _ _ _ _ | exact rfl))))
        | (apply drawr_pure; (· (first | exact wanted_plain rfl | (apply wanted_on; (· exact rfl); (· exact rfl); (· (first | with_reducible assumption | with_reducible rfl | decide))))); (· exact rfl); (· exact rfl); (· exact rfl))
        | (apply drawr_move; (· (first | exact wanted_plain rfl | (apply wanted_on; (· exact rfl); (· exact rfl); (· (first | with_reducible assumption | with_reducible rfl | decide))))); (· exact rfl))
        | refine ⟨(hB.sub (by (repeat (first | exact List.Sublist.refl _ | exact List.nil_sublist _ | apply List.Sublist.cons_cons | apply List.Sublist.cons | apply List.Sublist.append_left | refine List.Sublist.trans ?_ (List.sublist_append_right _ _))))), ?_⟩
        | apply dwp_seq
        | apply dwp_region
        | apply ops_nil
        | (apply ops_plain; (· exact rfl))
        | (apply op_call; (· exact rfl); (· exact rfl); (· exact rfl); (apply end54 (c := c); (· exact b1); (· exact b2); (· exact b3); (· exact (⟨s1, s2, s3, x1, x2, x3, o1, o2, o3, hB⟩ : Rep _ _ _ c _ _)); intro r1 H1 hR1; replace hR1 : Rep _ _ _ (cutF s) _ _ := hgo ▸ hR1; obtain ⟨s1, s2, s3, x1, x2, x3, o1, o2, o3, hB⟩ := hR1.ex))
        | (apply bx_next_end; (· exact rfl); (· exact rfl); (· assumption); (· (repeat (first | with_reducible exact At.here | with_reducible apply At.there | with_reducible apply at_app))); (· exact hlt))
        | (apply bx_load0; (· exact rfl); (· exact rfl); (· assumption); (· (repeat (first | with_reducible exact At.here | with_reducible apply At.there | with_reducible apply at_app))); (· (first | exact part57 _ _ _ _ | exact part49 _ _ | exact part49a _ _ _ _ _ _ _ _ _ | exact part49w _ _ _ _ _ _ _ _ _ | exact rfl)))
        | (apply bx_store0; (· exact rfl); (· exact rfl); (· exact rfl); (· assumption); (· (first | (dsimp only [putD, DV.cells, DH.new_next, DH.set_next, List.length_cons, List.length_nil, Nat.reduceAdd, List.set_cons_zero, List.set_cons_succ, getD_zero, getD_succ, fieldAt_zero, fieldAt_succ, thenD, blockD, retR, Sv.cells]; done) | (dsimp only [putD, DV.cells, DH.new_next, DH.set_next, List.length_cons, List.length_nil, Nat.reduceAdd, List.set_cons_zero, List.set_cons_succ, getD_zero, getD_succ, fieldAt_zero, fieldAt_succ, thenD, blockD, retR, Sv.cells]; exact rfl) | exact rfl)); (· (repeat (first | with_reducible exact Upd.here | with_reducible apply Upd.there | with_reducible apply upd_app))); (· exact rfl); (· exact rfl); (· exact rfl); (· exact rfl); intro H1 hB)
        | (apply op_at; (· exact rfl))
        | (apply dwp_cond_t; (· exact rfl); (· (first | with_reducible assumption | with_reducible rfl | decide)))
        | (apply dwp_cond_f; (· exact rfl); (· (first | with_reducible assumption | with_reducible rfl | decide)))
        | apply dwp_ret
        | apply dwp_exit
        | fail)
      exact hk1 he1' _ (hB.sub (by (repeat (first | exact List.Sublist.refl _ | exact List.nil_sublist _ | apply List.Sublist.cons_cons | apply List.Sublist.cons | apply List.Sublist.append_left | refine List.Sublist.trans ?_ (List.sublist_append_right _ _)))))
    | false =>
      have he1' : (cutF s).e = 0 := by simpa using he1
      repeat' (first
        | dsimp only [putD, DV.cells, DH.new_next, DH.set_next, List.length_cons, List.length_nil, Nat.reduceAdd, List.set_cons_zero, List.set_cons_succ, getD_zero, getD_succ, fieldAt_zero, fieldAt_succ, thenD, blockD, retR]
        | (refine ⟨_, resOf_ttct (loadD_at rfl (Bx.get (by assumption) (by (repeat (first | with_reducible exact At.here | with_reducible apply At.there | with_reducible apply at_app)))) rfl (by (first | exact part57 _ _ _ _ | exact part49 _ _ | exact part49a _ _ _ _ _ _ _ _ _ | exact part49w _ _ _ _ _ _ _ _ _ | exact rfl))), ?_⟩)
        | refine dwp_drawr _ rfl (fun H' => Bx A H' [(bc, .rows false 9 [(cutF s).row s1 s2 s3])] fs) (hB.sub (by (repeat (first | exact List.Sublist.refl _ | exact List.nil_sublist _ | apply List.Sublist.cons_cons | apply List.Sublist.cons | apply List.Sublist.append_left | refine List.Sublist.trans ?_ (List.sublist_append_right _ _))))) ?_
        | apply drawr_nil
        | (apply drawr_read; (· (first | exact wanted_plain rfl | (apply wanted_on; (· exact rfl); (· exact rfl); (· (first | with_reducible assumption | with_reducible rfl | decide))))); (· exact rfl); (· exact rfl); (· intro H' h; have h : Bx _ H' _ _ := h; exact opD_load rfl rfl (h.get (by (repeat (first | with_reducible exact At.here | with_reducible apply At.there | with_reducible apply at_app)))) rfl (by (first | exact part57 _ _ _ _ | exact part49 _ _ | exact part49a _ _ _ _ _ _ _ _ _ | exact part49w _ _ _ _ _ _ _ _ _ | exact rfl))))
        | (apply drawr_pure; (· (first | exact wanted_plain rfl | (apply wanted_on; (· exact rfl); (· exact rfl); (· (first | with_reducible assumption | with_reducible rfl | decide))))); (· exact rfl); (· exact rfl); (· exact rfl))
        | (apply drawr_move; (· (first | exact wanted_plain rfl | (apply wanted_on; (· exact rfl); (· exact rfl); (· (first | with_reducible assumption | with_reducible rfl | decide))))); (· exact rfl))
        | refine ⟨(hB.sub (by (repeat (first | exact List.Sublist.refl _ | exact List.nil_sublist _ | apply List.Sublist.cons_cons | apply List.Sublist.cons | apply List.Sublist.append_left | refine List.Sublist.trans ?_ (List.sublist_append_right _ _))))), ?_⟩
        | apply dwp_seq
        | apply dwp_region
        | apply ops_nil
        | (apply ops_plain; (· exact rfl))
        | (apply op_call; (· exact rfl); (· exact rfl); (· exact rfl); (apply end54 (c := c); (· exact b1); (· exact b2); (· exact b3); (· exact (⟨s1, s2, s3, x1, x2, x3, o1, o2, o3, hB⟩ : Rep _ _ _ c _ _)); intro r1 H1 hR1; replace hR1 : Rep _ _ _ (cutF s) _ _ := hgo ▸ hR1; obtain ⟨s1, s2, s3, x1, x2, x3, o1, o2, o3, hB⟩ := hR1.ex))
        | (apply bx_next_end; (· exact rfl); (· exact rfl); (· assumption); (· (repeat (first | with_reducible exact At.here | with_reducible apply At.there | with_reducible apply at_app))); (· exact hlt))
        | (apply bx_load0; (· exact rfl); (· exact rfl); (· assumption); (· (repeat (first | with_reducible exact At.here | with_reducible apply At.there | with_reducible apply at_app))); (· (first | exact part57 _ _ _ _ | exact part49 _ _ | exact part49a _ _ _ _ _ _ _ _ _ | exact part49w _ _ _ _ _ _ _ _ _ | exact rfl)))
        | (apply bx_store0; (· exact rfl); (· exact rfl); (· exact rfl); (· assumption); (· (first | (dsimp only [putD, DV.cells, DH.new_next, DH.set_next, List.length_cons, List.length_nil, Nat.reduceAdd, List.set_cons_zero, List.set_cons_succ, getD_zero, getD_succ, fieldAt_zero, fieldAt_succ, thenD, blockD, retR, Sv.cells]; done) | (dsimp only [putD, DV.cells, DH.new_next, DH.set_next, List.length_cons, List.length_nil, Nat.reduceAdd, List.set_cons_zero, List.set_cons_succ, getD_zero, getD_succ, fieldAt_zero, fieldAt_succ, thenD, blockD, retR, Sv.cells]; exact rfl) | exact rfl)); (· (repeat (first | with_reducible exact Upd.here | with_reducible apply Upd.there | with_reducible apply upd_app))); (· exact rfl); (· exact rfl); (· exact rfl); (· exact rfl); intro H1 hB)
        | (apply op_at; (· exact rfl))
        | (apply dwp_cond_f; (· exact rfl); (· (first | with_reducible assumption | with_reducible rfl | decide)))
        | apply dwp_skip
        | apply dwp_ret
        | apply dwp_exit
        | fail)
      exact hk2 he1' s1 s2 x1 x2 _ o1 o2 (hB.sub (by (repeat (first | exact List.Sublist.refl _ | exact List.nil_sublist _ | apply List.Sublist.cons_cons | apply List.Sublist.cons | apply List.Sublist.append_left | refine List.Sublist.trans ?_ (List.sublist_append_right _ _)))))
end
end Go.Det.C

/- Remarks: what is cut is the same. -/
namespace Go.Det.C
open Go Go.Det Go.Proofs
set_option maxRecDepth 4000
set_option linter.unusedVariables false
set_option linter.unusedSimpArgs false
/-- Two cutters, alike but for places. -/
structure Alike (c d : Cu) : Prop where
  toks : c.toks = d.toks
  piece : c.piece = d.piece
  remark : c.remark = d.remark
  e : c.e = d.e
theorem Alike.refl (c : Cu) : Alike c c := ⟨rfl, rfl, rfl, rfl⟩
theorem Alike.fail {c d : Cu} (h : Alike c d) (p p' : Int × Int) (e : Int) : Alike (c.fail p e) (d.fail p' e) := by
  unfold Cu.fail
  rw [h.e]
  split
  · exact ⟨h.toks, h.piece, h.remark, rfl⟩
  · exact h
theorem Alike.add {c d : Cu} (h : Alike c d) (t : Tok) (p p' : Int × Int) : Alike (c.add t p) (d.add t p') := by
  unfold Cu.add
  exact ⟨by simp [h.toks], h.piece, h.remark, h.e⟩
theorem Alike.cut {c d : Cu} (h : Alike c d) : Alike c.cut d.cut := ⟨h.toks, rfl, h.remark, h.e⟩
theorem Alike.fin {c d : Cu} (h : Alike c d) : Alike c.fin d.fin := by
  unfold Cu.fin
  rw [h.piece]
  split
  · exact h.cut
  · split
    · split
      · exact h.cut.add _ _ _
      · exact (h.cut.fail _ _ _).add _ _ _
    · split
      · exact h.cut.fail _ _ _
      · exact h.cut.add _ _ _
theorem Alike.take {c d : Cu} (h : Alike c d) (p p' : Int × Int) (r : Int) : Alike (c.take p r) (d.take p' r) := by
  have hr : Alike { c with remark := false } { d with remark := false } := ⟨h.toks, h.piece, rfl, h.e⟩
  have hf := hr.fin
  have h0 := h
  obtain ⟨toks, places, piece, a, rem, w, e⟩ := c
  obtain ⟨toks', places', piece', a', rem', w', e'⟩ := d
  obtain ⟨q1, q2, q3, q4⟩ := h0
  simp only at q1 q2 q3 q4
  subst q1 q2 q3 q4
  unfold Cu.take
  simp only at hf ⊢
  split
  · exact h
  · split
    · exact ⟨h.toks, rfl, rfl, h.e⟩
    · split
      · exact hf
      · split
        · exact ⟨hf.toks, hf.piece, rfl, hf.e⟩
        · split
          · exact hf.add _ _ _
          · split
            · exact ⟨hf.toks, by simp [hf.piece], hf.remark, hf.e⟩
            · exact hf.fail _ _ _
theorem Alike.step {c d : Cu} (h : Alike c d) (p p' : Int × Int) (x : Int × Bool) : Alike (stepR c p x) (stepR d p' x) := by
  unfold stepR
  split
  · exact (h.fin.fail _ _ _).take _ _ _
  · exact h.take _ _ _
theorem goR_cons (x : Int × Bool) (r : List (Int × Bool)) (c : Cu) (p : Int × Int) : goR (x :: r) c p = if (stepR c p x).e = 0 then goR r (stepR c p x) (nextP p x.1) else stepR c p x := rfl
theorem Alike.go {r : List (Int × Bool)} : ∀ {c d : Cu} (h : Alike c d) (p p' : Int × Int), Alike (goR r c p) (goR r d p') := by
  induction r with
  | nil => intro c d h p p'; exact h.fin
  | cons x r ih =>
    intro c d h p p'
    have hs := h.step p p' x
    rw [goR_cons, goR_cons, hs.e]
    split
    · exact ih hs _ _
    · exact hs
/-- Where runes lead to, up to the first fault. -/
noncomputable def foldR : List (Int × Bool) → Cu → Int × Int → Cu × (Int × Int)
  | [], c, p => (c, p)
  | x :: r, c, p => if (stepR c p x).e = 0 then foldR r (stepR c p x) (nextP p x.1) else (stepR c p x, p)
theorem foldR_cons (x : Int × Bool) (r : List (Int × Bool)) (c : Cu) (p : Int × Int) : foldR (x :: r) c p = if (stepR c p x).e = 0 then foldR r (stepR c p x) (nextP p x.1) else (stepR c p x, p) := rfl
theorem goR_app (b : List (Int × Bool)) : ∀ (a : List (Int × Bool)) (c : Cu) (p : Int × Int), c.e = 0 → goR (a ++ b) c p = if (foldR a c p).1.e = 0 then goR b (foldR a c p).1 (foldR a c p).2 else (foldR a c p).1 := by
  intro a
  induction a with
  | nil => intro c p h; simp only [List.nil_append, foldR, h, if_true]
  | cons x a ih =>
    intro c p h
    rw [List.cons_append]
    rw [goR_cons, foldR_cons]
    by_cases hs : (stepR c p x).e = 0
    · rw [if_pos hs, if_pos hs]; exact ih _ _ hs
    · simp only [hs, if_false]
/-- In a remark, what is no line's end is passed over. -/
theorem goR_remark : ∀ (r : List (Int × Bool)) (c : Cu) (p : Int × Int), (∀ x ∈ r, x.2 = false ∧ x.1 ≠ 10) → c.remark = true → c.e = 0 → ∃ p', goR r c p = goR [] c p' := by
  intro r
  induction r with
  | nil => intro c p _ _ _; exact ⟨p, rfl⟩
  | cons x r ih =>
    intro c p h hc he
    obtain ⟨h1, h2⟩ := h x List.mem_cons_self
    have hs : stepR c p x = c := by
      unfold stepR Cu.take
      rw [h1]
      simp only [Bool.false_eq_true, if_false]
      rw [if_pos ⟨hc, h2⟩]
    obtain ⟨p', hp⟩ := ih c (nextP p x.1) (fun y hy => h y (List.mem_cons_of_mem _ hy)) hc he
    refine ⟨p', ?_⟩
    rw [← hp]
    conv => lhs; rw [goR_cons]
    rw [hs, if_pos he]
theorem step_blank {c : Cu} (p : Int × Int) {r : Int} (hr : r = 32 ∨ r = 9 ∨ r = 10) (h1 : c.piece = []) (h2 : c.remark = false) : stepR c p (r, false) = c := by
  obtain ⟨toks, places, piece, a, rem, w, e⟩ := c
  simp only at h1 h2
  subst h1 h2
  unfold stepR Cu.take
  have hl : ¬ (isLet r = true ∨ isDgt r = true) := by
    rcases hr with rfl | rfl | rfl <;> decide
  simp only [Bool.false_eq_true, false_and, if_false]
  rw [if_neg hl, if_pos hr]
  rfl
def Cu.rem (c : Cu) : Cu := { c with remark := true }
theorem step_hash {c : Cu} (p : Int × Int) (h1 : c.piece = []) (h2 : c.remark = false) : stepR c p (35, false) = c.rem := by
  obtain ⟨toks, places, piece, a, rem, w, e⟩ := c
  simp only at h1 h2
  subst h1 h2
  unfold stepR Cu.take
  have hl : ¬ (isLet 35 = true ∨ isDgt 35 = true) := by decide
  simp only [Bool.false_eq_true, false_and, if_false]
  rw [if_neg hl, if_neg (by decide), if_pos trivial]
  rfl
theorem goR_blanks (b : List (Int × Bool)) : ∀ (l : List UInt8) (p : Int × Int), (∀ x ∈ l, x = 32 ∨ x = 9 ∨ x = 10) → ∃ p', goR (l.map (fun x => ((x.toNat : Int), false)) ++ b) cu0 p = goR b cu0 p' := by
  intro l
  induction l with
  | nil => intro p _; exact ⟨p, rfl⟩
  | cons x l ih =>
    intro p h
    have hx := h x List.mem_cons_self
    have hs : stepR cu0 p ((x.toNat : Int), false) = cu0 := by
      rcases hx with rfl | rfl | rfl
      · exact step_blank p (.inl rfl) rfl rfl
      · exact step_blank p (.inr (.inl rfl)) rfl rfl
      · exact step_blank p (.inr (.inr rfl)) rfl rfl
    obtain ⟨p', hp⟩ := ih (nextP p (x.toNat : Int)) (fun y hy => h y (List.mem_cons_of_mem _ hy))
    refine ⟨p', ?_⟩
    rw [← hp, List.map_cons, List.cons_append]
    conv => lhs; rw [goR_cons]
    rw [hs]
    rfl
theorem runes_ascii_app (m : List UInt8) : ∀ (l : List UInt8), (∀ x ∈ l, x.toNat < 128) → runes (l ++ m) = l.map (fun x => ((x.toNat : Int), false)) ++ runes m := by
  intro l
  induction l with
  | nil => intro _; rfl
  | cons x l ih =>
    intro h
    rw [List.cons_append, runes_ascii (h x List.mem_cons_self), ih (fun y hy => h y (List.mem_cons_of_mem _ hy))]
    rfl
/-- A remark's text. -/
def Plain (c : List UInt8) : Prop := ∀ x ∈ runes c, x.2 = false ∧ x.1 ≠ 10
theorem remarks (pad s c : List UInt8) (hp : ∀ x ∈ pad, x = 32 ∨ x = 9 ∨ x = 10) (hc : Plain c) : (cutF (pad ++ s ++ [10, 35] ++ c)).e = (cutF s).e ∧ ((cutF s).e = 0 → (cutF (pad ++ s ++ [10, 35] ++ c)).toks = (cutF s).toks) := by
  have hpa : ∀ x ∈ pad, x.toNat < 128 := fun x hx => by rcases hp x hx with rfl | rfl | rfl <;> decide
  have e1 : pad ++ s ++ [10, 35] ++ c = pad ++ (s ++ 10 :: (35 :: c)) := by simp
  have e2 : runes (10 :: 35 :: c) = (10, false) :: (35, false) :: runes c := by
    rw [runes_ascii (by decide), runes_ascii (by decide)]; rfl
  unfold cutF
  rw [e1, runes_ascii_app _ _ hpa, runes_app _ _ _ (Nat.le_refl _), e2]
  obtain ⟨p', h1⟩ := goR_blanks (runes s ++ (10, false) :: (35, false) :: runes c) pad (1, 1) hp
  rw [h1, goR_app _ _ _ _ rfl]
  have hs : goR (runes s ++ []) cu0 (1, 1) = _ := goR_app [] (runes s) cu0 (1, 1) rfl
  rw [List.append_nil] at hs
  have hal : Alike (foldR (runes s) cu0 p').1 (foldR (runes s) cu0 (1, 1)).1 := by
    have : ∀ (r : List (Int × Bool)) (c d : Cu) (p q : Int × Int), Alike c d → Alike (foldR r c p).1 (foldR r d q).1 := by
      intro r
      induction r with
      | nil => intro c d p q h; exact h
      | cons x r ih =>
        intro c d p q h
        have hst := h.step p q x
        unfold foldR
        rw [hst.e]
        split
        · exact ih _ _ _ _ hst
        · exact hst
    exact this _ _ _ _ _ (Alike.refl _)
  rw [hs]
  generalize (foldR (runes s) cu0 p') = f at hal
  generalize (foldR (runes s) cu0 (1, 1)) = g at hal
  obtain ⟨f, fp⟩ := f
  obtain ⟨g, gp⟩ := g
  simp only at hal ⊢
  by_cases he : g.e = 0
  · have he' : f.e = 0 := by rw [hal.e]; exact he
    rw [if_pos he, if_pos he']
    -- the line's end
    have hst : stepR f fp (10, false) = Cu.fin { f with remark := false } := by
      unfold stepR Cu.take
      simp only [Bool.false_eq_true, if_false]
      rw [if_neg (by simp), if_neg (by decide), if_pos (by simp)]
    have hfr : ∀ b : Bool, (Cu.fin { f with remark := b }).e = f.fin.e ∧ (Cu.fin { f with remark := b }).toks = f.fin.toks := by
      intro b
      unfold Cu.fin Cu.cut Cu.fail Cu.add
      constructor
      · (repeat' split) <;> simp_all
      · (repeat' split) <;> simp_all
    have hfin := hal.fin
    obtain ⟨k1, k2, k3, k4⟩ := fin_len { f with remark := false }
    rw [goR_cons, hst]
    split
    · rename_i hz
      rw [goR_cons, step_hash _ k3 k4]
      rw [if_pos (show (Cu.fin { f with remark := false }).rem.e = 0 from hz)]
      obtain ⟨p2, hr⟩ := goR_remark (runes c) (Cu.fin { f with remark := false }).rem (nextP (nextP fp 10) 35) hc rfl hz
      rw [hr]
      have hlast : ∀ d : Cu, d.piece = [] → ∀ p, goR [] d p = d.cut := by
        intro d hd p
        show d.fin = d.cut
        unfold Cu.fin
        rw [if_pos hd]
      rw [hlast (Cu.fin { f with remark := false }).rem k3]
      have h0 := hfr false
      constructor
      · show (Cu.fin { f with remark := false }).e = g.fin.e
        rw [h0.1, hfin.e]
      · intro _
        show (Cu.fin { f with remark := false }).toks = g.fin.toks
        rw [h0.2, hfin.toks]
    · rename_i hz
      have h0 := hfr false
      constructor
      · show (Cu.fin { f with remark := false }).e = g.fin.e
        rw [h0.1, hfin.e]
      · intro hg
        exfalso
        apply hz
        rw [h0.1, hfin.e]
        exact hg
  · have he' : ¬ f.e = 0 := by rw [hal.e]; exact he
    rw [if_neg he, if_neg he']
    exact ⟨hal.e, fun _ => hal.toks⟩
theorem remark_alone (c : List UInt8) (hc : Plain c) : (cutF ([35, 32] ++ c)).e = 0 ∧ (cutF ([35, 32] ++ c)).toks = [] := by
  have e2 : runes ([35, 32] ++ c) = (35, false) :: (32, false) :: runes c := by
    show runes (35 :: 32 :: c) = _
    rw [runes_ascii (by decide), runes_ascii (by decide)]; rfl
  unfold cutF
  rw [e2]
  rw [goR_cons, step_hash _ rfl rfl]
  rw [if_pos (by rfl)]
  obtain ⟨p2, hr⟩ := goR_remark ((32, false) :: runes c) cu0.rem (nextP (1, 1) 35) (fun x hx => by
    rcases List.mem_cons.mp hx with rfl | hx
    · exact ⟨rfl, by decide⟩
    · exact hc x hx) rfl rfl
  rw [hr]
  exact ⟨rfl, rfl⟩
end Go.Det.C

/- Tokens stand at their places. -/
namespace Go.Det.C
open Go Go.Det Go.Proofs
set_option maxRecDepth 4000
set_option linter.unusedVariables false
set_option linter.unusedSimpArgs false
def runeLenF (c : Int) : Int := if c < 0 then -1 else if c ≤ 127 then 1 else if c ≤ 2047 then 2 else if 55296 ≤ c ∧ c ≤ 57343 then -1 else if c ≤ 65535 then 3 else if c ≤ 1114111 then 4 else -1
theorem get_zero (l : List UInt8) (k : Nat) : (ByteArray.mk l.toArray).get! (0 + k) = l[k]?.getD 0 := by
  show l.toArray[0 + k]! = _
  rw [Nat.zero_add, getElem!_def, List.getElem?_toArray]
  cases l[k]? <;> rfl
theorem prefix3 {l : List UInt8} (h : 2 < l.length) (h0 : (l[0]?.getD 0).toNat = 239) (h1 : (l[1]?.getD 0).toNat = 191) (h2 : (l[2]?.getD 0).toNat = 189) : [239, 191, 189].isPrefixOf l = true := by
  match l, h with
  | a :: b :: c :: t, _ =>
    simp only [List.getElem?_cons_zero, List.getElem?_cons_succ, Option.getD_some] at h0 h1 h2
    have e0 : a = 239 := UInt8.toNat_inj.mp h0
    have e1 : b = 191 := UInt8.toNat_inj.mp h1
    have e2 : c = 189 := UInt8.toNat_inj.mp h2
    subst e0 e1 e2
    simp [List.isPrefixOf]
theorem decL_err3 (t : List UInt8) : decL (239 :: 191 :: 189 :: t) = (65533, 3) := by
  have hs : (ByteArray.mk (239 :: 191 :: 189 :: t).toArray).size = t.length + 3 := rfl
  unfold decL Utf8.decode
  simp only [hs, get_zero, List.getElem?_cons_zero, List.getElem?_cons_succ, Option.getD_some]
  have d1 : decide (0 + 1 < t.length + 3) = true := by simp
  have d2 : decide (0 + 2 < t.length + 3) = true := by simp
  have e0 : (239 : UInt8).toNat = 239 := rfl
  have e1 : (191 : UInt8).toNat = 191 := rfl
  have e2 : (189 : UInt8).toNat = 189 := rfl
  simp [d1, d2, e0, e1, e2, Utf8.valid]
theorem decL_key {l : List UInt8} (h : l ≠ []) (hp : [239, 191, 189].isPrefixOf l = false) : (decL l).1 = 65533 ∧ (decL l).2 = 1 ∨ (decL l).1 ≠ 65533 ∧ ((decL l).2 : Int) = runeLenF (decL l).1 := by
  have hl : 0 < l.length := List.length_pos_iff.mpr h
  have hsz : (ByteArray.mk l.toArray).size = l.length := rfl
  have u0 := (l[0]?.getD 0).toNat_lt
  have u1 := (l[1]?.getD 0).toNat_lt
  have u2 := (l[2]?.getD 0).toNat_lt
  have u3 := (l[3]?.getD 0).toNat_lt
  have hp3 := @prefix3 l
  unfold decL Utf8.decode
  simp only [hsz, get_zero]
  generalize (l[0]?.getD 0).toNat = b0 at *
  generalize (l[1]?.getD 0).toNat = b1 at *
  generalize (l[2]?.getD 0).toNat = b2 at *
  generalize (l[3]?.getD 0).toNat = b3 at *
  split
  · rename_i h1
    right
    simp only
    refine ⟨by omega, ?_⟩
    unfold runeLenF
    rw [if_neg (by omega), if_pos (by omega)]; rfl
  · split
    · rename_i h1 h2
      split
      · rename_i h3
        right
        simp only
        refine ⟨by omega, ?_⟩
        unfold runeLenF
        rw [if_neg (by omega), if_neg (by omega), if_pos (by omega)]; rfl
      · exact .inl ⟨rfl, rfl⟩
    · split
      · rename_i h1 h2 h4
        simp only [Bool.and_eq_true, decide_eq_true_eq, beq_iff_eq] at h4
        split
        · rename_i h3
          right
          unfold Utf8.valid at h3
          simp only [Bool.and_eq_true, Bool.or_eq_true, decide_eq_true_eq] at h3
          simp only
          have hne : ¬ (b0 % 16) * 4096 + (b1 % 64) * 64 + b2 % 64 = 65533 := by
            intro e
            have := hp3 (by omega) (by omega) (by omega) (by omega)
            rw [this] at hp
            cases hp
          refine ⟨hne, ?_⟩
          unfold runeLenF
          rw [if_neg (by omega), if_neg (by omega), if_neg (by omega), if_neg (by omega), if_pos (by omega)]; rfl
        · exact .inl ⟨rfl, rfl⟩
      · split
        · rename_i h1 h2 h4 h5
          split
          · rename_i h3
            right
            unfold Utf8.valid at h3
            simp only [Bool.and_eq_true, Bool.or_eq_true, decide_eq_true_eq] at h3
            simp only
            refine ⟨by omega, ?_⟩
            unfold runeLenF
            rw [if_neg (by omega), if_neg (by omega), if_neg (by omega), if_neg (by omega), if_neg (by omega), if_pos (by omega)]; rfl
          · exact .inl ⟨rfl, rfl⟩
        · exact .inl ⟨rfl, rfl⟩
theorem decL_len {l : List UInt8} (h : l ≠ []) : ((decL l).2 : Int) = if badL l = true then 1 else runeLenF (decL l).1 := by
  by_cases hp : [239, 191, 189].isPrefixOf l = true
  · match l, hp with
    | a :: b :: c :: t, hp =>
      simp [List.isPrefixOf] at hp
      obtain ⟨rfl, rfl, rfl⟩ := hp
      unfold badL
      rw [decL_err3]
      rfl
    | [a, b], hp => simp [List.isPrefixOf] at hp
    | [a], hp => simp [List.isPrefixOf] at hp
    | [], hp => exact absurd rfl h
  · have hp' : [239, 191, 189].isPrefixOf l = false := eq_false_of_ne_true hp
    unfold badL
    rw [hp']
    rcases decL_key h hp' with ⟨h1, h2⟩ | ⟨h1, h2⟩
    · rw [h1, h2]; rfl
    · have : decide ((decL l).1 = 65533) = false := by simpa using h1
      rw [this, h2]; rfl
theorem decL_ascii {l : List UInt8} (h : l ≠ []) (hc : (decL l).1 < 128) : ∃ b m, l = b :: m ∧ b.toNat = (decL l).1 ∧ (decL l).2 = 1 ∧ l.drop (decL l).2 = m := by
  match l, h with
  | b :: m, _ =>
    have h0 : (decL (b :: m)).1 = b.toNat ∧ (decL (b :: m)).2 = 1 := by
      have g0 : ((b :: m)[0]?.getD 0).toNat = b.toNat := by simp
      revert hc
      unfold decL Utf8.decode
      simp only [get_zero, g0]
      split
      · intro _; exact ⟨rfl, rfl⟩
      · split
        · split
          · intro hc; simp only at hc; omega
          · intro hc; exact absurd hc (by decide)
        · split
          · split
            · rename_i h3
              intro hc
              simp only [Bool.and_eq_true, decide_eq_true_eq] at h3
              simp only at hc
              omega
            · intro hc; exact absurd hc (by decide)
          · split
            · split
              · rename_i h3
                intro hc
                simp only [Bool.and_eq_true, decide_eq_true_eq] at h3
                simp only at hc
                omega
              · intro hc; exact absurd hc (by decide)
            · intro hc; exact absurd hc (by decide)
    exact ⟨b, m, rfl, h0.1.symm, h0.2, by rw [h0.2]; rfl⟩
/-! ### what is cut stands there -/
/-- Tokens, as they stand in a text. -/
inductive Laid : List UInt8 → Int × Int → List (Tok × (Int × Int)) → Prop
  | nil {l p} : Laid l p []
  | skip {l p ts} : l ≠ [] → Laid (l.drop (decL l).2) (nextP p (decL l).1) ts → Laid l p ts
  | tok {l m : List UInt8} {p t ts} : l = t.s ++ m → t.s ≠ [] → (∀ x ∈ t.s, x.toNat < 128 ∧ x.toNat ≠ 10) → Laid m (p.1, p.2 + t.s.length) ts → Laid l p ((t, p) :: ts)
theorem fail_keep {c : Cu} {p : Int × Int} {e : Int} (h : c.e ≠ 0) : c.fail p e = c := by unfold Cu.fail; rw [if_neg h]
theorem fail_e {c : Cu} {p : Int × Int} {e : Int} (h : e ≠ 0) : (c.fail p e).e ≠ 0 := by
  unfold Cu.fail
  split
  · exact h
  · assumption
theorem fin_keep {c : Cu} (h : c.e ≠ 0) : c.fin.e ≠ 0 := by
  have hc : c.cut.e ≠ 0 := h
  unfold Cu.fin
  split
  · exact hc
  · split
    · split
      · exact hc
      · rw [fail_keep hc]; exact hc
    · split
      · rw [fail_keep hc]; exact hc
      · exact hc
theorem take_keep {c : Cu} {p : Int × Int} {r : Int} (h : c.e ≠ 0) : (c.take p r).e ≠ 0 := by
  have hf : (Cu.fin { c with remark := false }).e ≠ 0 := fin_keep h
  unfold Cu.take
  split
  · exact h
  · split
    · exact h
    · simp only
      split
      · exact hf
      · split
        · exact hf
        · split
          · exact hf
          · split
            · exact hf
            · rw [fail_keep hf]; exact hf
theorem fin_nil {c : Cu} (h : c.piece = []) : c.fin = c := by
  obtain ⟨toks, places, piece, a, rem, w, e⟩ := c
  simp only at h
  subst h
  rfl
theorem fin_ok {c : Cu} (hp : c.piece ≠ []) (he : c.fin.e = 0) : ∃ t : Tok, t.s = c.piece ∧ c.fin = { c with toks := c.toks ++ [t], places := c.places ++ [c.at'], piece := [] } := by
  revert he
  unfold Cu.fin
  rw [if_neg hp]
  split
  · split
    · intro _; exact ⟨_, rfl, rfl⟩
    · rename_i h
      intro he
      exact absurd he (fail_e h)
  · split
    · intro he; exact absurd he (fail_e (by decide))
    · intro _; exact ⟨_, rfl, rfl⟩
def Okp (c : Cu) (p : Int × Int) : Prop := c.piece = [] ∨ (c.remark = false ∧ p = (c.at'.1, c.at'.2 + c.piece.length) ∧ ∀ x ∈ c.piece, x.toNat < 128 ∧ x.toNat ≠ 10)
theorem end_laid {l : List UInt8} {c : Cu} {p : Int × Int} (hk : Okp c p) (he : c.fin.e = 0) {ts : List (Tok × (Int × Int))} (h : Laid l p ts) :
    ∃ us : List (Tok × (Int × Int)), c.fin.toks ++ ts.map (·.1) = c.toks ++ us.map (·.1) ∧ c.fin.places ++ ts.map (·.2) = c.places ++ us.map (·.2) ∧ Laid (c.piece ++ l) (if c.piece = [] then p else c.at') us := by
  by_cases hp : c.piece = []
  · rw [fin_nil hp, if_pos hp, hp]
    exact ⟨ts, rfl, rfl, h⟩
  · obtain ⟨t, ht, hf⟩ := fin_ok hp he
    rcases hk with hk | ⟨h1, h2, h3⟩
    · exact absurd hk hp
    · rw [hf, if_neg hp]
      refine ⟨(t, c.at') :: ts, by simp, by simp, .tok (by rw [ht]) (by rw [ht]; exact hp) (by rw [ht]; exact h3) ?_⟩
      rw [ht, ← h2]
      exact h
theorem isLet_range {n : Int} (h : isLet n = true ∨ isDgt n = true) : 48 ≤ n ∧ n ≤ 122 := by
  unfold isLet isDgt at h
  simp only [Bool.and_eq_true, decide_eq_true_eq] at h
  omega
theorem go_laid : ∀ (n : Nat) (l : List UInt8), l.length ≤ n → ∀ (c : Cu) (p : Int × Int), Okp c p → (goR (runes l) c p).e = 0 →
    ∃ ts : List (Tok × (Int × Int)), (goR (runes l) c p).toks = c.toks ++ ts.map (·.1) ∧ (goR (runes l) c p).places = c.places ++ ts.map (·.2) ∧ Laid (c.piece ++ l) (if c.piece = [] then p else c.at') ts := by
  intro n
  induction n with
  | zero =>
    intro l hl c p hk he
    obtain rfl : l = [] := List.length_eq_zero_iff.mp (by omega)
    rw [runes_nil] at he ⊢
    change c.fin.e = 0 at he
    obtain ⟨us, e1, e2, h⟩ := end_laid hk he (.nil (l := []) (p := p))
    rw [List.map_nil, List.append_nil] at e1 e2
    exact ⟨us, e1, e2, h⟩
  | succ n ih =>
    intro l hl c p hk he
    by_cases hne : l = []
    · subst hne
      rw [runes_nil] at he ⊢
      change c.fin.e = 0 at he
      obtain ⟨us, e1, e2, h⟩ := end_laid hk he (.nil (l := []) (p := p))
      rw [List.map_nil, List.append_nil] at e1 e2
      exact ⟨us, e1, e2, h⟩
    · have hw := decL_width hne
      have hl' : (l.drop (decL l).2).length ≤ n := by rw [List.length_drop]; omega
      rw [runes_cons hne, goR_cons] at he ⊢
      by_cases hs : (stepR c p ((((decL l).1 : Nat) : Int), badL l)).e = 0
      · rw [if_pos hs] at he ⊢
        obtain ⟨x, hx⟩ : ∃ x : Int, (((decL l).1 : Nat) : Int) = x := ⟨_, rfl⟩
        have hxn : x.toNat = (decL l).1 := by rw [← hx]; exact Int.toNat_natCast _
        have hskip : ∀ ts, Laid (l.drop (decL l).2) (nextP p x) ts → Laid l p ts := fun ts h => .skip hne (by rw [hx]; exact h)
        rw [hx] at hs he ⊢
        cases hb : badL l with
        | true =>
          rw [hb] at hs
          unfold stepR at hs
          rw [if_pos rfl] at hs
          exact absurd hs (take_keep (fail_e (by decide)))
        | false =>
          rw [hb] at hs he
          have hst : stepR c p (x, false) = c.take p x := rfl
          rw [hst] at hs he ⊢
          -- a rune that makes no part of a piece
          have hkd : Okp { c with remark := false } p := by
            rcases hk with hk | ⟨h1, h2, h3⟩
            · exact .inl hk
            · exact .inr ⟨rfl, h2, h3⟩
          have rest : ∀ (c2 : Cu), c2.piece = [] → c2.toks = (Cu.fin { c with remark := false }).toks → c2.places = (Cu.fin { c with remark := false }).places → (Cu.fin { c with remark := false }).e = 0 → (goR (runes (l.drop (decL l).2)) c2 (nextP p x)).e = 0 →
              ∃ ts : List (Tok × (Int × Int)), (goR (runes (l.drop (decL l).2)) c2 (nextP p x)).toks = c.toks ++ ts.map (·.1) ∧ (goR (runes (l.drop (decL l).2)) c2 (nextP p x)).places = c.places ++ ts.map (·.2) ∧ Laid (c.piece ++ l) (if c.piece = [] then p else c.at') ts := by
            intro c2 hp2 ht2 hq2 hfe he2
            obtain ⟨ts, e1, e2, h⟩ := ih _ hl' c2 (nextP p x) (.inl hp2) he2
            rw [hp2, if_pos rfl] at h
            obtain ⟨us, f1, f2, g⟩ := end_laid hkd hfe (hskip ts h)
            refine ⟨us, ?_, ?_, g⟩
            · rw [e1, ht2, f1]
            · rw [e2, hq2, f2]
          by_cases h1 : c.remark = true ∧ x ≠ 10
          · have htk : c.take p x = c := by unfold Cu.take; rw [if_pos h1]
            rw [htk] at he ⊢
            have hp : c.piece = [] := by
              rcases hk with hk | ⟨k1, _⟩
              · exact hk
              · rw [h1.1] at k1; cases k1
            obtain ⟨ts, e1, e2, h⟩ := ih _ hl' c (nextP p x) (.inl hp) he
            rw [hp, if_pos rfl] at h
            rw [hp, if_pos rfl]
            exact ⟨ts, e1, e2, hskip ts h⟩
          · by_cases h2 : isLet x = true ∨ isDgt x = true
            · have hr := isLet_range h2
              obtain ⟨b, m, rfl, hbn, hw1, hdr⟩ := decL_ascii hne (by omega)
              have hbx : UInt8.ofNat x.toNat = b := by rw [hxn, ← hbn]; exact UInt8.ofNat_toNat
              have htk : c.take p x = { c with remark := false, at' := if c.piece = [] then p else c.at', piece := c.piece ++ [b] } := by
                unfold Cu.take; rw [if_neg h1, if_pos h2, hbx]
              rw [htk] at he ⊢
              rw [hdr] at he ⊢ hl'
              have hnx : nextP p x = (p.1, p.2 + 1) := by unfold nextP; rw [if_neg (by omega)]
              obtain ⟨ts, e1, e2, h⟩ := ih m hl' _ (nextP p x) (.inr ⟨rfl, by
                rw [hnx]
                simp only [List.length_append, List.length_cons, List.length_nil]
                rcases hk with hk | ⟨k1, k2, k3⟩
                · rw [if_pos hk, hk]; rfl
                · split
                  · rename_i hk; rw [hk]; rfl
                  · rw [k2]; simp; omega, by
                intro y hy
                simp only [List.mem_append, List.mem_singleton] at hy
                rcases hy with hy | rfl
                · rcases hk with hk | ⟨k1, k2, k3⟩
                  · rw [hk] at hy; cases hy
                  · exact k3 y hy
                · omega⟩) he
              simp only at h
              rw [if_neg (by simp)] at h
              refine ⟨ts, e1, e2, ?_⟩
              rw [List.append_assoc] at h
              exact h
            · by_cases hfe : (Cu.fin { c with remark := false }).e = 0
              · have hfp := (fin_len { c with remark := false }).2.2.1
                by_cases h3 : x = 32 ∨ x = 9 ∨ x = 10
                · have htk : c.take p x = Cu.fin { c with remark := false } := by
                    unfold Cu.take; rw [if_neg h1, if_neg h2]; simp only; rw [if_pos h3]
                  rw [htk] at he ⊢
                  exact rest _ hfp rfl rfl hfe he
                · by_cases h4 : x = 35
                  · have htk : c.take p x = { (Cu.fin { c with remark := false }) with remark := true } := by
                      unfold Cu.take; rw [if_neg h1, if_neg h2]; simp only; rw [if_neg h3, if_pos h4]
                    rw [htk] at he ⊢
                    exact rest _ hfp rfl rfl hfe he
                  · by_cases h5 : x = 59 ∨ x = 123 ∨ x = 125
                    · have htk : c.take p x = (Cu.fin { c with remark := false }).add ⟨3, [UInt8.ofNat x.toNat], 0, false⟩ p := by
                        unfold Cu.take; rw [if_neg h1, if_neg h2]; simp only; rw [if_neg h3, if_neg h4, if_pos h5]
                      rw [htk] at he ⊢
                      obtain ⟨b, m, hlm, hbn, hw1, hdr⟩ := decL_ascii hne (by omega)
                      have hbx : UInt8.ofNat x.toNat = b := by rw [hxn, ← hbn]; exact UInt8.ofNat_toNat
                      have hnx : nextP p x = (p.1, p.2 + 1) := by unfold nextP; rw [if_neg (by omega)]
                      rw [hbx] at he ⊢
                      obtain ⟨ts, e1, e2, h⟩ := ih _ hl' ((Cu.fin { c with remark := false }).add ⟨3, [b], 0, false⟩ p) (nextP p x) (.inl hfp) he
                      rw [show (Cu.add (Cu.fin { c with remark := false }) ⟨3, [b], 0, false⟩ p).piece = [] from hfp, if_pos rfl, hdr, hnx] at h
                      have h' : Laid l p ((⟨3, [b], 0, false⟩, p) :: ts) := .tok (m := m) hlm (by simp) (by intro y hy; simp only [List.mem_singleton] at hy; subst hy; omega) h
                      obtain ⟨us, f1, f2, g⟩ := end_laid hkd hfe h'
                      refine ⟨us, ?_, ?_, g⟩
                      · rw [e1]; rw [← f1]; unfold Cu.add; simp
                      · rw [e2]; rw [← f2]; unfold Cu.add; simp
                    · by_cases h6 : x = 45
                      · have htk : c.take p x = { (Cu.fin { c with remark := false }) with piece := (Cu.fin { c with remark := false }).piece ++ [45], at' := p } := by
                          unfold Cu.take; rw [if_neg h1, if_neg h2]; simp only; rw [if_neg h3, if_neg h4, if_neg h5, if_pos h6]
                        rw [htk] at he ⊢
                        obtain ⟨b, m, hlm, hbn, hw1, hdr⟩ := decL_ascii hne (by omega)
                        have hb45 : b = 45 := UInt8.toNat_inj.mp (by rw [hbn]; show _ = 45; omega)
                        have hnx : nextP p x = (p.1, p.2 + 1) := by unfold nextP; rw [if_neg (by omega)]
                        rw [hfp] at he ⊢
                        have hrf : (Cu.fin { c with remark := false }).remark = false := (fin_len { c with remark := false }).2.2.2
                        obtain ⟨ts, e1, e2, h⟩ := ih _ hl' { (Cu.fin { c with remark := false }) with piece := [45], at' := p } (nextP p x) (.inr ⟨hrf, by rw [hnx]; rfl, by intro y hy; simp only [List.mem_singleton] at hy; subst hy; decide⟩) he
                        rw [if_neg (by simp), hdr] at h
                        have h' : Laid l p ts := by rw [hlm, hb45]; exact h
                        obtain ⟨us, f1, f2, g⟩ := end_laid hkd hfe h'
                        refine ⟨us, ?_, ?_, g⟩
                        · exact e1.trans f1
                        · exact e2.trans f2
                      · exfalso
                        apply absurd hs
                        have htk : c.take p x = (Cu.fin { c with remark := false }).fail p 4 := by
                          unfold Cu.take; rw [if_neg h1, if_neg h2]; simp only; rw [if_neg h3, if_neg h4, if_neg h5, if_neg h6]
                        rw [htk]
                        exact fail_e (by decide)
              · exfalso
                apply absurd hs
                unfold Cu.take
                rw [if_neg h1, if_neg h2]
                simp only
                split
                · exact hfe
                · split
                  · exact hfe
                  · split
                    · exact hfe
                    · split
                      · exact hfe
                      · rw [fail_keep hfe]; exact hfe
      · rw [if_neg hs] at he
        exact absurd he hs
/-! ### where a byte stands -/
/-- A byte's place. -/
def whereG (l : List UInt8) (p : Int × Int) (k : Nat) : Int × Int :=
  if h : l = [] then p else if k < (decL l).2 then p else whereG (l.drop (decL l).2) (nextP p (decL l).1) (k - (decL l).2)
termination_by l.length
decreasing_by
  have h1 := decL_width h
  have h2 : 0 < l.length := List.length_pos_iff.mpr h
  rw [List.length_drop]; omega
theorem whereG_nil (p : Int × Int) (k : Nat) : whereG [] p k = p := by rw [whereG]; simp
theorem whereG_lt {l : List UInt8} (h : l ≠ []) {p : Int × Int} {k : Nat} (hk : k < (decL l).2) : whereG l p k = p := by rw [whereG, dif_neg h, if_pos hk]
theorem whereG_ge {l : List UInt8} (h : l ≠ []) {p : Int × Int} {k : Nat} (hk : ¬ k < (decL l).2) : whereG l p k = whereG (l.drop (decL l).2) (nextP p (decL l).1) (k - (decL l).2) := by
  conv => lhs; rw [whereG]
  rw [dif_neg h, if_neg hk]
def leP (p q : Int × Int) : Prop := p.1 < q.1 ∨ p.1 = q.1 ∧ p.2 ≤ q.2
def ltP (p q : Int × Int) : Prop := p.1 < q.1 ∨ p.1 = q.1 ∧ p.2 < q.2
theorem next_lt (p : Int × Int) (c : Int) {q : Int × Int} (h : leP (nextP p c) q) : ltP p q := by
  unfold nextP at h
  unfold leP at h
  unfold ltP
  split at h <;> simp only at h <;> omega
theorem laid_le {l : List UInt8} {p : Int × Int} {ts : List (Tok × (Int × Int))} (h : Laid l p ts) : ∀ x us, ts = x :: us → leP p x.2 := by
  induction h with
  | nil => intro x us e; cases e
  | skip _ _ ih =>
    intro x us e
    rcases next_lt _ _ (ih x us e) with h | h
    · exact .inl h
    · exact .inr ⟨h.1, Int.le_of_lt h.2⟩
  | tok _ _ _ _ _ => intro x us e; cases e; exact .inr ⟨rfl, Int.le_refl _⟩
theorem whereG_app (m : List UInt8) (j : Nat) : ∀ (t : List UInt8) (p : Int × Int), (∀ x ∈ t, x.toNat < 128 ∧ x.toNat ≠ 10) → whereG (t ++ m) p (t.length + j) = whereG m (p.1, p.2 + t.length) j := by
  intro t
  induction t with
  | nil => intro p _; simp
  | cons b t ih =>
    intro p h
    obtain ⟨h1, h2⟩ := h b List.mem_cons_self
    have hd : decL (b :: (t ++ m)) = (b.toNat, 1) := decode_ascii (s := b :: (t ++ m)) (k := 0) rfl h1
    have hn : nextP p (b.toNat : Int) = (p.1, p.2 + 1) := by unfold nextP; rw [if_neg (by omega)]
    rw [List.cons_append, whereG_ge (by simp) (by rw [hd, List.length_cons]; simp only; omega), hd]
    simp only
    rw [hn, List.length_cons, show t.length + 1 + j - 1 = t.length + j by omega]
    rw [show (b :: (t ++ m)).drop 1 = t ++ m from rfl, ih _ (fun x hx => h x (List.mem_cons_of_mem _ hx))]
    congr 2
    simp only; omega
/-- What the law looks at, one byte after the other. -/
inductive Good (s : List UInt8) : Nat → List (Tok × (Int × Int)) → Prop
  | nil {k} : Good s k []
  | skip {k x ts} : k < s.length → whereG s (1, 1) k ≠ x.2 → Good s (k + 1) (x :: ts) → Good s k (x :: ts)
  | tok {k x ts} : k < s.length → whereG s (1, 1) k = x.2 → x.1.s ≠ [] → k + x.1.s.length ≤ s.length → (s.drop k).take x.1.s.length = x.1.s → Good s (k + x.1.s.length) ts → Good s k (x :: ts)
theorem laid_good {s l : List UInt8} {p : Int × Int} {ts : List (Tok × (Int × Int))} (h : Laid l p ts) : ∀ k, s.drop k = l → k ≤ s.length → (∀ j, whereG s (1, 1) (k + j) = whereG l p j) → Good s k ts := by
  induction h with
  | nil => intro k _ _ _; exact .nil
  | @skip l p ts hne hin ih =>
    intro k hd hk hj
    cases ts with
    | nil => exact .nil
    | cons x us =>
      have hlt := next_lt p _ (laid_le hin x us rfl)
      have hw := decL_width hne
      have hll : l.length = s.length - k := by rw [← hd, List.length_drop]
      obtain ⟨w, hwe⟩ : ∃ w, (decL l).2 = w := ⟨_, rfl⟩
      have hg : Good s (k + w) (x :: us) := by
        refine ih (k + w) ?_ (by omega) ?_
        · rw [← hd, List.drop_drop, ← hwe, hd]
        · intro j
          have := hj (w + j)
          rw [← Nat.add_assoc] at this
          rw [this, whereG_ge hne (by omega), hwe, Nat.add_sub_cancel_left]
      have key : ∀ i, i ≤ w → Good s (k + (w - i)) (x :: us) := by
        intro i
        induction i with
        | zero => intro _; exact hg
        | succ i ihi =>
          intro hi
          refine .skip (by omega) ?_ ?_
          · rw [hj, whereG_lt hne (by omega)]
            intro e
            rw [← e] at hlt
            rcases hlt with h | h
            · exact absurd h (Int.lt_irrefl _)
            · exact absurd h.2 (Int.lt_irrefl _)
          · rw [show k + (w - (i + 1)) + 1 = k + (w - i) by omega]
            exact ihi (by omega)
      have := key w (Nat.le_refl _)
      rw [Nat.sub_self, Nat.add_zero] at this
      exact this
  | @tok l m p t ts hlm hne has hin ih =>
    intro k hd hk hj
    have hll : l.length = s.length - k := by rw [← hd, List.length_drop]
    have hlen : l.length = t.s.length + m.length := by rw [hlm, List.length_append]
    have htp : 0 < t.s.length := List.length_pos_iff.mpr hne
    have hlne : l ≠ [] := by intro e; rw [e] at hlen; simp at hlen; omega
    refine .tok (by omega) ?_ hne (by simp only; omega) ?_ ?_
    · have := hj 0
      rw [Nat.add_zero] at this
      rw [this, whereG_lt hlne (by have := decL_width hlne; omega)]
    · simp only
      rw [hd, hlm]
      exact List.take_left
    · refine ih _ ?_ (by simp only; omega) ?_
      · simp only
        rw [← List.drop_drop, hd, hlm]
        exact List.drop_left
      · intro j
        simp only
        rw [Nat.add_assoc, hj, hlm]
        exact whereG_app m j t.s p has
theorem cut_good {s : List UInt8} (he : (cutF s).e = 0) : ∃ ts : List (Tok × (Int × Int)), (cutF s).toks = ts.map (·.1) ∧ (cutF s).places = ts.map (·.2) ∧ Good s 0 ts := by
  obtain ⟨ts, e1, e2, h⟩ := go_laid _ s (Nat.le_refl _) cu0 (1, 1) (.inl rfl) he
  refine ⟨ts, e1, e2, ?_⟩
  exact laid_good h 0 rfl (Nat.zero_le _) (fun j => by rw [Nat.zero_add]; rfl)
end Go.Det.C

/- few; the reference's Same. -/
namespace Go.Det.C
open Go Go.Det Go.Proofs
set_option maxRecDepth 4000
set_option maxHeartbeats 4000000
set_option linter.unusedVariables false
set_option linter.unusedSimpArgs false
def few (n : Nat) : Bool := decide (n ≤ 3000) || (decide (65536 < n) && decide (n < 131072))
theorem few23 (s : List UInt8) (H : DH) : CallWp Tryd.prog X3 23 [.str s, .sl none 0 0 true] H (fun r H' => r = .bool (few s.length) ∧ H' = H) := by
  unfold few
  cases h1 : decide ((s.length : Int) ≤ 3000) with
  | true =>
    have e1 : decide (s.length ≤ 3000) = true := by simp at h1 ⊢; omega
    refine enter rfl Tryd.func23 rfl Tryd.ntmps23 rfl ?_
    dsimp only [List.cons_append, List.nil_append, List.length_cons, List.length_nil, List.replicate_succ, List.replicate_zero, Nat.reduceAdd, Nat.reduceSub]
    repeat' (first
      | dsimp only [putD, DV.cells, DH.new_next, DH.set_next, List.length_cons, List.length_nil, Nat.reduceAdd, List.set_cons_zero, List.set_cons_succ, getD_zero, getD_succ, fieldAt_zero, fieldAt_succ, thenD, blockD, retR]
      | refine dwp_round ?_
      | apply dwp_seq
      | apply dwp_region
      | apply ops_nil
      | (apply ops_plain; (· exact rfl))
      | (apply ops_on; (· exact rfl); (· exact rfl); (· (first | with_reducible assumption | with_reducible rfl | decide)))
      | (apply ops_off0; (· exact rfl); (· exact rfl); (· (first | with_reducible assumption | with_reducible rfl | decide)))
      | (apply ops_offn; (· exact rfl); (· exact rfl))
      | (apply op_pick_t; (· exact rfl); (· exact rfl); (· (first | with_reducible assumption | with_reducible rfl | decide)); (· exact rfl))
      | (apply op_at; (· exact rfl))
      | (apply dwp_cond_f; (· exact rfl); (· (first | with_reducible assumption | with_reducible rfl | decide)))
      | apply dwp_block
      | apply dwp_ret
      | apply dwp_exit
      | (refine ⟨_, rfl, ?_⟩)
      | fail)
    rw [e1]; exact ⟨rfl, rfl⟩
  | false =>
    have e1 : decide (s.length ≤ 3000) = false := by simp at h1 ⊢; omega
    cases h2 : decide ((s.length : Int) > 65536) with
    | true =>
      have e2 : decide (65536 < s.length) = true := by simp at h2 ⊢; omega
      cases h3 : decide ((s.length : Int) < 131072) with
      | true =>
        have e3 : decide (s.length < 131072) = true := by simp at h3 ⊢; omega
        refine enter rfl Tryd.func23 rfl Tryd.ntmps23 rfl ?_
        dsimp only [List.cons_append, List.nil_append, List.length_cons, List.length_nil, List.replicate_succ, List.replicate_zero, Nat.reduceAdd, Nat.reduceSub]
        repeat' (first
          | dsimp only [putD, DV.cells, DH.new_next, DH.set_next, List.length_cons, List.length_nil, Nat.reduceAdd, List.set_cons_zero, List.set_cons_succ, getD_zero, getD_succ, fieldAt_zero, fieldAt_succ, thenD, blockD, retR]
          | refine dwp_round ?_
          | apply dwp_seq
          | apply dwp_region
          | apply ops_nil
          | (apply ops_plain; (· exact rfl))
          | (apply ops_on; (· exact rfl); (· exact rfl); (· (first | with_reducible assumption | with_reducible rfl | decide)))
          | (apply op_pick_t; (· exact rfl); (· exact rfl); (· (first | with_reducible assumption | with_reducible rfl | decide)); (· exact rfl))
          | (apply op_pick_f; (· exact rfl); (· exact rfl); (· (first | with_reducible assumption | with_reducible rfl | decide)); (· exact rfl))
          | (apply op_at; (· exact rfl))
          | (apply dwp_cond_f; (· exact rfl); (· (first | with_reducible assumption | with_reducible rfl | decide)))
          | apply dwp_block
          | apply dwp_ret
          | apply dwp_exit
          | (refine ⟨_, rfl, ?_⟩)
          | fail)
        rw [e1, e2, e3]; exact ⟨rfl, rfl⟩
      | false =>
        have e3 : decide (s.length < 131072) = false := by simp at h3 ⊢; omega
        refine enter rfl Tryd.func23 rfl Tryd.ntmps23 rfl ?_
        dsimp only [List.cons_append, List.nil_append, List.length_cons, List.length_nil, List.replicate_succ, List.replicate_zero, Nat.reduceAdd, Nat.reduceSub]
        repeat' (first
          | dsimp only [putD, DV.cells, DH.new_next, DH.set_next, List.length_cons, List.length_nil, Nat.reduceAdd, List.set_cons_zero, List.set_cons_succ, getD_zero, getD_succ, fieldAt_zero, fieldAt_succ, thenD, blockD, retR]
          | refine dwp_round ?_
          | apply dwp_seq
          | apply dwp_region
          | apply ops_nil
          | (apply ops_plain; (· exact rfl))
          | (apply ops_on; (· exact rfl); (· exact rfl); (· (first | with_reducible assumption | with_reducible rfl | decide)))
          | (apply ops_off1; (· exact rfl); (· exact rfl); (· (first | with_reducible assumption | with_reducible rfl | decide)))
          | (apply op_pick_t; (· exact rfl); (· exact rfl); (· (first | with_reducible assumption | with_reducible rfl | decide)); (· exact rfl))
          | (apply op_pick_f; (· exact rfl); (· exact rfl); (· (first | with_reducible assumption | with_reducible rfl | decide)); (· exact rfl))
          | (apply op_at; (· exact rfl))
          | (apply dwp_cond_f; (· exact rfl); (· (first | with_reducible assumption | with_reducible rfl | decide)))
          | apply dwp_block
          | apply dwp_ret
          | apply dwp_exit
          | (refine ⟨_, rfl, ?_⟩)
          | fail)
        rw [e1, e2, e3]; exact ⟨rfl, rfl⟩
    | false =>
      have e2 : decide (65536 < s.length) = false := by simp at h2 ⊢; omega
      refine enter rfl Tryd.func23 rfl Tryd.ntmps23 rfl ?_
      dsimp only [List.cons_append, List.nil_append, List.length_cons, List.length_nil, List.replicate_succ, List.replicate_zero, Nat.reduceAdd, Nat.reduceSub]
      repeat' (first
        | dsimp only [putD, DV.cells, DH.new_next, DH.set_next, List.length_cons, List.length_nil, Nat.reduceAdd, List.set_cons_zero, List.set_cons_succ, getD_zero, getD_succ, fieldAt_zero, fieldAt_succ, thenD, blockD, retR]
        | refine dwp_round ?_
        | apply dwp_seq
        | apply dwp_region
        | apply ops_nil
        | (apply ops_plain; (· exact rfl))
        | (apply ops_on; (· exact rfl); (· exact rfl); (· (first | with_reducible assumption | with_reducible rfl | decide)))
        | (apply ops_off1; (· exact rfl); (· exact rfl); (· (first | with_reducible assumption | with_reducible rfl | decide)))
        | (apply op_pick_f; (· exact rfl); (· exact rfl); (· (first | with_reducible assumption | with_reducible rfl | decide)); (· exact rfl))
        | (apply op_at; (· exact rfl))
        | (apply dwp_cond_f; (· exact rfl); (· (first | with_reducible assumption | with_reducible rfl | decide)))
        | apply dwp_block
        | apply dwp_ret
        | apply dwp_exit
        | (refine ⟨_, rfl, ?_⟩)
        | fail)
      rw [e1, e2]; exact ⟨rfl, rfl⟩
end Go.Det.C

/- The reference's Same. -/
namespace Go.Det.C
open Go Go.Det Go.Proofs
set_option maxRecDepth 4000
set_option maxHeartbeats 4000000
set_option linter.unusedVariables false
set_option linter.unusedSimpArgs false
theorem eqTok (x y : Tok) : eqD Tryd.prog 57 (.agg x.row) (.agg y.row) = some (decide (x = y)) := by
  have h : eqD Tryd.prog 57 (.agg x.row) (.agg y.row) = andO (x.k == y.k) (andO (x.s == y.s) (andO (x.n == y.n) (andO (x.t == y.t) (some true)))) := by kernel_rfl
  rw [h]
  simp only [andO_some]
  refine congrArg some ?_
  rw [Bool.eq_iff_iff]
  cases x; cases y
  simp
theorem partTok (x : Tok) : partD Tryd.prog 57 x.row 0 = some (.agg x.row) := rfl
theorem same25 {H : DH} {p p' : Option (Nat × Nat × Nat)} {c c' : Nat} {ex ex' : Bool} {l m : List Tok} (hl : Sl H 4 (l.map Tok.row) p) (hm : Sl H 4 (m.map Tok.row) p') (hlen : l.length ≤ 1000000) :
    CallWp Tryd.prog X3 25 [.sl p l.length c ex, .sl p' m.length c' ex'] H (fun r H' => r = .bool (decide (l = m)) ∧ H' = H) := by
  by_cases hne : ((l.length : Int) != (m.length : Int)) = true
  · skip
    refine enter rfl Tryd.func25 rfl Tryd.ntmps25 rfl ?_
    dsimp only [List.cons_append, List.nil_append, List.length_cons, List.length_nil, List.replicate_succ, List.replicate_zero, Nat.reduceAdd, Nat.reduceSub]
    repeat' (first
      | dsimp only [putD, DV.cells, DH.new_next, DH.set_next, List.length_cons, List.length_nil, Nat.reduceAdd, List.set_cons_zero, List.set_cons_succ, getD_zero, getD_succ, fieldAt_zero, fieldAt_succ, thenD, blockD, retR]
      | apply dwp_seq
      | apply dwp_region
      | apply ops_nil
      | (apply ops_plain; (· exact rfl))
      | (apply op_at; (· exact rfl))
      | (apply dwp_cond_t; (· exact rfl); (· (first | with_reducible assumption | with_reducible rfl | decide)))
      | apply dwp_ret
      | (refine ⟨_, rfl, ?_⟩)
      | fail)
    refine ⟨?_, rfl⟩
    have : ¬ l = m := fun e => by subst e; simp at hne
    simp [this]
  · have hne' : ((l.length : Int) != (m.length : Int)) = false := by simpa using hne
    have hlm : l.length = m.length := by simp at hne'; omega
    refine enter rfl Tryd.func25 rfl Tryd.ntmps25 rfl ?_
    dsimp only [List.cons_append, List.nil_append, List.length_cons, List.length_nil, List.replicate_succ, List.replicate_zero, Nat.reduceAdd, Nat.reduceSub]
    repeat' (first
      | dsimp only [putD, DV.cells, DH.new_next, DH.set_next, List.length_cons, List.length_nil, Nat.reduceAdd, List.set_cons_zero, List.set_cons_succ, getD_zero, getD_succ, fieldAt_zero, fieldAt_succ, thenD, blockD, retR]
      | apply dwp_seq
      | apply dwp_region
      | apply ops_nil
      | (apply ops_plain; (· exact rfl))
      | (apply op_at; (· exact rfl))
      | (apply dwp_cond_f; (· exact rfl); (· (first | with_reducible assumption | with_reducible rfl | decide)))
      | apply dwp_block
      | apply dwp_skip
      | fail)
    refine dwp_loop (fun st => ∃ (k : Nat), ∃ J : Nat → DV, (k ≤ l.length ∧ ∀ i, i < k → l[i]? = m[i]?) ∧ st = ⟨[.sl p l.length c ex, .sl p' m.length c' ex', J 2, J 3, J 4, J 5, J 6, J 7, J 8, J 9, J 10, J 11, .int .i64 l.length, .int .i64 (k : Int), J 14, J 15, J 16, J 17, J 18, J 19, J 20, J 21, J 22, J 23, J 24, J 25], H⟩) (fun st => l.length - kOf st 13) (⟨0, junk_facts (⟨Nat.zero_le _, fun i h2 => absurd h2 (by omega)⟩) rfl rfl⟩) ?_
    rintro st ⟨k, J, ⟨hk, hbef⟩, rfl⟩
    by_cases hlt : k < l.length
    · obtain ⟨x, hx⟩ : ∃ x, l[k]? = some x := ⟨l[k], List.getElem?_eq_getElem hlt⟩
      obtain ⟨y, hy⟩ : ∃ y, m[k]? = some y := ⟨m[k]'(by omega), List.getElem?_eq_getElem _⟩
      obtain ⟨loc, i0, ro, rs, rfl, hloc, ho, hrx⟩ := hl.rd (k := k) (r := x.row) (by rw [List.getElem?_map, hx]; rfl)
      obtain ⟨loc', i0', ro', rs', rfl, hloc', ho', hry⟩ := hm.rd (k := k) (r := y.row) (by rw [List.getElem?_map, hy]; rfl)
      have hr1 : rs[i0 + ((k : Int)).toNat]? = some x.row := by rw [Int.toNat_natCast]; exact hrx
      have hr2 : rs'[i0' + ((k : Int)).toNat]? = some y.row := by rw [Int.toNat_natCast]; exact hry
      have hc : decide ((k : Int) < (l.length : Int)) = true := by simp [hlt]
      have hin1 : 0 ≤ (k : Int) ∧ (k : Int) < (l.length : Int) := by omega
      have hin2 : 0 ≤ (k : Int) ∧ (k : Int) < (m.length : Int) := by omega
      have hw : IntKind.i64.wrap ((k : Int) + 1) = ((k + 1 : Nat) : Int) := by rw [wrapI (by omega)]; rfl
      repeat' (first
        | dsimp only [putD, DV.cells, DH.new_next, DH.set_next, List.length_cons, List.length_nil, Nat.reduceAdd, List.set_cons_zero, List.set_cons_succ, getD_zero, getD_succ, fieldAt_zero, fieldAt_succ, thenD, blockD, retR]
        | (apply drawc_pure; (· (first | exact wanted_plain rfl | (apply wanted_on; (· exact rfl); (· exact rfl); (· (first | with_reducible assumption | with_reducible rfl | decide))))); (· exact rfl); (· exact rfl); (· exact opD_index rfl rfl rfl rfl rfl hin1))
        | (apply drawc_pure; (· (first | exact wanted_plain rfl | (apply wanted_on; (· exact rfl); (· exact rfl); (· (first | with_reducible assumption | with_reducible rfl | decide))))); (· exact rfl); (· exact rfl); (· exact opD_index rfl rfl rfl rfl rfl hin2))
        | (apply drawc_read_at; (· exact rfl); (· (first | exact wanted_plain rfl | (apply wanted_on; (· exact rfl); (· exact rfl); (· (first | with_reducible assumption | with_reducible rfl | decide))))); (· exact rfl); (· exact ho); (· with_reducible exact hr1); (· exact partTok x); (· decide +kernel))
        | (apply drawc_read_at; (· exact rfl); (· (first | exact wanted_plain rfl | (apply wanted_on; (· exact rfl); (· exact rfl); (· (first | with_reducible assumption | with_reducible rfl | decide))))); (· exact rfl); (· exact ho'); (· with_reducible exact hr2); (· exact partTok y); (· decide +kernel))
        | (apply drawc_pure; (· (first | exact wanted_plain rfl | (apply wanted_on; (· exact rfl); (· exact rfl); (· (first | with_reducible assumption | with_reducible rfl | decide))))); (· exact rfl); (· exact rfl); (· exact opD_neql rfl rfl rfl (eqTok x y)))
        | apply dwp_seq
        | apply dwp_region
        | apply ops_nil
        | (apply ops_plain; (· exact rfl))
        | (apply op_at; (· exact rfl))
        | refine dwp_drawc _ rfl ?_
        | apply drawc_nil
        | (apply drawc_pure; (· (first | exact wanted_plain rfl | (apply wanted_on; (· exact rfl); (· exact rfl); (· (first | with_reducible assumption | with_reducible rfl | decide))))); (· exact rfl); (· exact rfl); (· exact rfl))
        | (apply dwp_cond_t; (· exact rfl); (· (first | with_reducible assumption | with_reducible rfl | decide)))
        | (refine dwp_cond rfl ?_ ?_ <;> intro hb)
        | apply dwp_block
        | apply dwp_skip
        | apply dwp_ret
        | (refine ⟨_, rfl, ?_⟩)
        | fail)
      · refine ⟨?_, rfl⟩
        have hxy : ¬ x = y := by simpa using hb
        have : ¬ l = m := fun e => by subst e; rw [hx] at hy; cases hy; exact hxy rfl
        simp [this]
      · have hxy : x = y := by simpa using hb
        rw [hw]
        refine ⟨⟨k + 1, junk_facts (⟨by omega, fun i h2 => ?_⟩) rfl rfl⟩, ?_⟩
        · by_cases e : i = k
          · subst e; rw [hx, hy, hxy]
          · exact hbef i (by omega)
        · show l.length - ((k + 1 : Nat) : Int).toNat < l.length - (k : Int).toNat
          omega
    · have hc : decide ((k : Int) < (l.length : Int)) = false := by simp; omega
      repeat' (first
        | dsimp only [putD, DV.cells, DH.new_next, DH.set_next, List.length_cons, List.length_nil, Nat.reduceAdd, List.set_cons_zero, List.set_cons_succ, getD_zero, getD_succ, fieldAt_zero, fieldAt_succ, thenD, blockD, retR]
        | apply dwp_seq
        | apply dwp_region
        | apply ops_nil
        | (apply ops_plain; (· exact rfl))
        | (apply op_at; (· exact rfl))
        | (apply dwp_cond_f; (· exact rfl); (· (first | with_reducible assumption | with_reducible rfl | decide)))
        | apply dwp_ret
        | apply dwp_exit
        | (refine ⟨_, rfl, ?_⟩)
        | fail)
      refine ⟨?_, rfl⟩
      have : l = m := by
        apply List.ext_getElem?
        intro i
        by_cases hi : i < k
        · exact hbef i hi
        · rw [List.getElem?_eq_none (by omega), List.getElem?_eq_none (by omega)]
      simp [this]
end Go.Det.C

/- LexRemarks. -/
namespace Go.Det.C
open Go Go.Det Go.Proofs
set_option maxRecDepth 4000
set_option maxHeartbeats 4000000
set_option linter.unusedVariables false
set_option linter.unusedSimpArgs false
theorem opD_strAdd {P : Program} {cf : CallF} {o : Oper} {env : List DV} {H : DH} {t u : TypeId} {x y : Operand} {a b : List UInt8} (ho : o.op = .binOp .add t x y u) (hx : evalO env x = some (.str a)) (hy : evalO env y = some (.str b)) (hl : a.length + b.length ≤ 4294967296) : opD P cf o env H = some (.str (a ++ b), H) := by
  simp only [opD, ho, mover, reader, pureD, hx, hy, binD, strOpD, hl, if_true]
  rfl
section
variable {A H : DH} {bs : List (Nat × DObj)} {fs : List (DH → Prop)} {K : DV → DH → Prop}
theorem cut_err {s : List UInt8} (hs : s.length ≤ 65536) (he : (cutF s).e ≠ 0) (hB : Bx A H bs fs) (hk : ∀ H', Bx A H' bs fs → K (.tuple [.sl none 0 0 true, .sl none 0 0 true, .agg [.int .i64 (cutF s).w.1, .int .i64 (cutF s).w.2], .int .i64 (cutF s).e]) H') : CallWp Tryd.prog X3 24 [.str s] H K :=
  cut24 hs hB (fun _ => hk) (fun h => absurd h he)
theorem cut_ok {s : List UInt8} (hs : s.length ≤ 65536) (he : (cutF s).e = 0) (hB : Bx A H bs fs) (hk : ∀ (s1 s2 : Sv) x1 x2 H', Own1 4 ((cutF s).toks.map Tok.row) s1.dv x1 → Own1 2 ((cutF s).places.map placeRow) s2.dv x2 → Bx A H' (x1 ++ (x2 ++ bs)) fs → K (.tuple [s1.dv, s2.dv, .agg [.int .i64 0, .int .i64 0], .int .i64 0]) H') : CallWp Tryd.prog X3 24 [.str s] H K :=
  cut24 hs hB (fun h => absurd he h) (fun _ => hk)
end
/-- What the loop has seen is plain. -/
theorem plain_step {c : List UInt8} {pos cn w : Nat} (hne : c.drop pos ≠ []) (hd : decL (c.drop pos) = (cn, w)) (h1 : cn ≠ 10) (h2 : cn ≠ 65533) (h : Plain (c.drop (pos + w))) : Plain (c.drop pos) := by
  intro x hx
  rw [runes_cons hne, hd, List.drop_drop] at hx
  rcases List.mem_cons.mp hx with rfl | hx
  · refine ⟨?_, ?_⟩
    · unfold badL
      rw [hd]
      simp [h2]
    · simp only; omega
  · exact h x hx
theorem runes_len : ∀ (n : Nat) (l : List UInt8), l.length ≤ n → (runes l).length ≤ l.length := by
  intro n
  induction n with
  | zero => intro l hl; obtain rfl : l = [] := List.length_eq_zero_iff.mp (by omega); rw [runes_nil]; exact Nat.le_refl _
  | succ n ih =>
    intro l hl
    by_cases h : l = []
    · subst h; rw [runes_nil]; exact Nat.le_refl _
    · have hw := decL_width h
      have := ih (l.drop (decL l).2) (by rw [List.length_drop]; omega)
      rw [List.length_drop] at this
      rw [runes_cons h, List.length_cons]
      omega
theorem goR_len : ∀ (r : List (Int × Bool)) (c : Cu) (p : Int × Int), (goR r c p).toks.length ≤ c.toks.length + 3 * r.length + 1 := by
  intro r
  induction r with
  | nil => intro c p; have := (fin_len c).1; show c.fin.toks.length ≤ _; simp only [List.length_nil]; omega
  | cons x r ih =>
    intro c p
    have h := (step_len c p x).1
    rw [goR_cons, List.length_cons]
    split
    · have := ih (stepR c p x) (nextP p x.1); omega
    · omega
theorem plain_nil : Plain [] := by intro x hx; rw [runes_nil] at hx; cases hx
theorem remarks6 (s c : List UInt8) (pad : Int) (hpad : 0 ≤ pad ∧ pad ≤ 255) {A H : DH} (hB : Bx A H [] []) : CallWp Tryd.prog X3 6 [.str s, .str c, .int .u8 pad] H (fun r _ => r = .bool true) := by
  cases hfs : few s.length with
  | false =>
    refine enter rfl Tryd.func6 rfl Tryd.ntmps6 rfl ?_
    dsimp only [List.cons_append, List.nil_append, List.length_cons, List.length_nil, List.replicate_succ, List.replicate_zero, Nat.reduceAdd, Nat.reduceSub]
    repeat' (first
      | dsimp only [putD, DV.cells, DH.new_next, DH.set_next, List.length_cons, List.length_nil, Nat.reduceAdd, List.set_cons_zero, List.set_cons_succ, getD_zero, getD_succ, fieldAt_zero, fieldAt_succ, thenD, blockD, retR]
      | apply dwp_seq
      | apply dwp_region
      | apply ops_nil
      | (apply ops_plain; (· exact rfl))
      | (apply ops_off0; (· exact rfl); (· exact rfl); (· (first | with_reducible assumption | with_reducible rfl | decide)))
      | (apply op_call; (· exact rfl); (· exact rfl); (· exact rfl); refine call_table (g := gLive) rfl rfl ?_)
      | (apply op_call; (· exact rfl); (· exact rfl); (· exact rfl); (refine (few23 _ _).mono ?_; rintro r0 H' ⟨rfl, rfl⟩; (first | rw [hfs] | rw [hfc])))
      | (apply op_pick_t; (· exact rfl); (· exact rfl); (· (first | with_reducible assumption | with_reducible rfl | decide)); (· exact rfl))
      | (apply op_at; (· exact rfl))
      | (apply dwp_cond_t; (· exact rfl); (· (first | with_reducible assumption | with_reducible rfl | decide)))
      | apply dwp_ret
      | (refine ⟨_, rfl, ?_⟩)
      | fail)
  | true =>
    cases hfc : few c.length with
    | false =>
      refine enter rfl Tryd.func6 rfl Tryd.ntmps6 rfl ?_
      dsimp only [List.cons_append, List.nil_append, List.length_cons, List.length_nil, List.replicate_succ, List.replicate_zero, Nat.reduceAdd, Nat.reduceSub]
      repeat' (first
        | dsimp only [putD, DV.cells, DH.new_next, DH.set_next, List.length_cons, List.length_nil, Nat.reduceAdd, List.set_cons_zero, List.set_cons_succ, getD_zero, getD_succ, fieldAt_zero, fieldAt_succ, thenD, blockD, retR]
        | apply dwp_seq
        | apply dwp_region
        | apply ops_nil
        | (apply ops_plain; (· exact rfl))
        | (apply ops_on; (· exact rfl); (· exact rfl); (· (first | with_reducible assumption | with_reducible rfl | decide)))
        | (apply ops_off0; (· exact rfl); (· exact rfl); (· (first | with_reducible assumption | with_reducible rfl | decide)))
        | (apply op_call; (· exact rfl); (· exact rfl); (· exact rfl); refine call_table (g := gLive) rfl rfl ?_)
        | (apply op_call; (· exact rfl); (· exact rfl); (· exact rfl); (refine (few23 _ _).mono ?_; rintro r0 H' ⟨rfl, rfl⟩; (first | rw [hfs] | rw [hfc])))
        | (apply op_pick_t; (· exact rfl); (· exact rfl); (· (first | with_reducible assumption | with_reducible rfl | decide)); (· exact rfl))
        | (apply op_pick_f; (· exact rfl); (· exact rfl); (· (first | with_reducible assumption | with_reducible rfl | decide)); (· exact rfl))
        | (apply op_at; (· exact rfl))
        | (apply dwp_cond_t; (· exact rfl); (· (first | with_reducible assumption | with_reducible rfl | decide)))
        | apply dwp_ret
        | (refine ⟨_, rfl, ?_⟩)
        | fail)
    | true =>
      have hls : s.length < 131072 := by unfold few at hfs; simp at hfs; omega
      have hlc : c.length < 131072 := by unfold few at hfc; simp at hfc; omega
      have hsum : IntKind.i64.wrap ((s.length : Int) + (c.length : Int)) = ((s.length + c.length : Nat) : Int) := by
        rw [wrapI (by omega)]; omega
      cases hbig : decide (((s.length + c.length : Nat) : Int) > 3000) with
      | true =>
        refine enter rfl Tryd.func6 rfl Tryd.ntmps6 rfl ?_
        dsimp only [List.cons_append, List.nil_append, List.length_cons, List.length_nil, List.replicate_succ, List.replicate_zero, Nat.reduceAdd, Nat.reduceSub]
        repeat' (first
          | dsimp only [putD, DV.cells, DH.new_next, DH.set_next, List.length_cons, List.length_nil, Nat.reduceAdd, List.set_cons_zero, List.set_cons_succ, getD_zero, getD_succ, fieldAt_zero, fieldAt_succ, thenD, blockD, retR]
          | apply dwp_seq
          | apply dwp_region
          | apply ops_nil
          | (apply ops_plain; (· exact rfl))
          | (apply ops_on; (· exact rfl); (· exact rfl); (· (first | with_reducible assumption | with_reducible rfl | decide)))
          | (apply op_call; (· exact rfl); (· exact rfl); (· exact rfl); refine call_table (g := gLive) rfl rfl ?_)
          | (apply op_call; (· exact rfl); (· exact rfl); (· exact rfl); (refine (few23 _ _).mono ?_; rintro r0 H' ⟨rfl, rfl⟩; (first | rw [hfs] | rw [hfc])))
          | (apply op_pick_f; (· exact rfl); (· exact rfl); (· (first | with_reducible assumption | with_reducible rfl | decide)); (· exact rfl))
          | (apply op_told; (· exact rfl); (· exact congrArg (DV.int _) hsum))
          | (apply op_at; (· exact rfl))
          | (apply dwp_cond_t; (· exact rfl); (· (first | with_reducible assumption | with_reducible rfl | decide)))
          | apply dwp_ret
          | (refine ⟨_, rfl, ?_⟩)
          | fail)
      | false =>
        have hsm : s.length + c.length ≤ 3000 := by simp at hbig; omega
        refine enter rfl Tryd.func6 rfl Tryd.ntmps6 rfl ?_
        dsimp only [List.cons_append, List.nil_append, List.length_cons, List.length_nil, List.replicate_succ, List.replicate_zero, Nat.reduceAdd, Nat.reduceSub]
        repeat' (first
          | dsimp only [putD, DV.cells, DH.new_next, DH.set_next, List.length_cons, List.length_nil, Nat.reduceAdd, List.set_cons_zero, List.set_cons_succ, getD_zero, getD_succ, fieldAt_zero, fieldAt_succ, thenD, blockD, retR]
          | apply dwp_seq
          | apply dwp_region
          | apply ops_nil
          | (apply ops_plain; (· exact rfl))
          | (apply ops_on; (· exact rfl); (· exact rfl); (· (first | with_reducible assumption | with_reducible rfl | decide)))
          | (apply op_call; (· exact rfl); (· exact rfl); (· exact rfl); refine call_table (g := gLive) rfl rfl ?_)
          | (apply op_call; (· exact rfl); (· exact rfl); (· exact rfl); (refine (few23 _ _).mono ?_; rintro r0 H' ⟨rfl, rfl⟩; (first | rw [hfs] | rw [hfc])))
          | (apply op_pick_f; (· exact rfl); (· exact rfl); (· (first | with_reducible assumption | with_reducible rfl | decide)); (· exact rfl))
          | (apply op_told; (· exact rfl); (· exact congrArg (DV.int _) hsum))
          | (apply bx_range; (· exact rfl); (· exact rfl); (· exact rfl); (· assumption); intro bi H1 hB)
          | (apply op_at; (· exact rfl))
          | (apply dwp_cond_f; (· exact rfl); (· (first | with_reducible assumption | with_reducible rfl | decide)))
          | apply dwp_block
          | apply dwp_skip
          | fail)
        refine dwp_loop (fun st => ∃ (bi : Nat) (H1 : DH) (pos : Nat), ∃ J : Nat → DV, (Bx A H1 [(bi, .iter c pos)] [] ∧ pos ≤ c.length ∧ (Plain (c.drop pos) → Plain c)) ∧ st = ⟨(.str s :: .str c :: .int .u8 pad :: J 3 :: J 4 :: J 5 :: .bool false :: .bool true :: J 8 :: J 9 :: J 10 :: J 11 :: J 12 :: J 13 :: J 14 :: J 15 :: J 16 :: J 17 :: J 18 :: J 19 :: J 20 :: J 21 :: J 22 :: J 23 :: J 24 :: J 25 :: J 26 :: J 27 :: J 28 :: J 29 :: J 30 :: J 31 :: J 32 :: J 33 :: J 34 :: J 35 :: J 36 :: J 37 :: J 38 :: J 39 :: J 40 :: .ptr (some (bi, 0, 0)) :: J 42 :: J 43 :: J 44 :: J 45 :: J 46 :: J 47 :: J 48 :: J 49 :: J 50 :: J 51 :: J 52 :: J 53 :: J 54 :: J 55 :: J 56 :: J 57 :: J 58 :: J 59 :: J 60 :: J 61 :: J 62 :: J 63 :: J 64 :: J 65 :: J 66 :: J 67 :: J 68 :: J 69 :: J 70 :: J 71 :: J 72 :: J 73 :: J 74 :: J 75 :: J 76 :: J 77 :: J 78 :: J 79 :: J 80 :: J 81 :: J 82 :: J 83 :: J 84 :: J 85 :: J 86 :: J 87 :: J 88 :: J 89 :: J 90 :: J 91 :: J 92 :: J 93 :: J 94 :: J 95 :: J 96 :: J 97 :: J 98 :: J 99 :: J 100 :: []), H1⟩) (fun st => c.length - posOf st 41) (⟨_, _, 0, junk_facts (⟨hB, Nat.zero_le _, id⟩) rfl rfl⟩) ?_
        rintro st ⟨bi, H1, pos, J, ⟨hB, hpos, hpl⟩, rfl⟩
        by_cases hlt : pos < c.length
        · have hne : c.drop pos ≠ [] := by
            intro h
            have := congrArg List.length h
            rw [List.length_drop] at this
            simp at this
            omega
          obtain ⟨cn, w, hcw⟩ : ∃ cn w, decL (c.drop pos) = (cn, w) := ⟨_, _, rfl⟩
          have hww := decL_width hne
          rw [hcw, List.length_drop] at hww
          simp only at hww
          have hdec : Utf8.decode ⟨c.toArray⟩ pos = (cn, w) := by rw [decode_drop c pos hpos, hcw]
          have hB0 := hB
          cases h10 : ((cn : Int) == 10) with
          | true =>
            repeat' (first
              | dsimp only [putD, DV.cells, DH.new_next, DH.set_next, List.length_cons, List.length_nil, Nat.reduceAdd, List.set_cons_zero, List.set_cons_succ, getD_zero, getD_succ, fieldAt_zero, fieldAt_succ, thenD, blockD, retR]
              | apply dwp_seq
              | apply dwp_region
              | apply ops_nil
              | (apply ops_plain; (· exact rfl))
              | (apply ops_off0; (· exact rfl); (· exact rfl); (· (first | with_reducible assumption | with_reducible rfl | decide)))
              | (apply op_pick_t; (· exact rfl); (· exact rfl); (· (first | with_reducible assumption | with_reducible rfl | decide)); (· exact rfl))
              | (apply bx_next (c := cn) (w := w); (· exact rfl); (· exact rfl); (· assumption); (· (repeat (first | with_reducible exact Upd.here | with_reducible apply Upd.there | with_reducible apply upd_app))); (· exact hlt); (· exact hdec); intro H1 hB)
              | (apply op_at; (· exact rfl))
              | (apply dwp_cond_t; (· exact rfl); (· (first | with_reducible assumption | with_reducible rfl | decide)))
              | apply dwp_block
              | apply dwp_skip
              | apply dwp_ret
              | (refine ⟨_, rfl, ?_⟩)
              | fail)
          | false =>
            cases h65 : ((cn : Int) == 65533) with
            | true =>
              repeat' (first
                | dsimp only [putD, DV.cells, DH.new_next, DH.set_next, List.length_cons, List.length_nil, Nat.reduceAdd, List.set_cons_zero, List.set_cons_succ, getD_zero, getD_succ, fieldAt_zero, fieldAt_succ, thenD, blockD, retR]
                | apply dwp_seq
                | apply dwp_region
                | apply ops_nil
                | (apply ops_plain; (· exact rfl))
                | (apply ops_on; (· exact rfl); (· exact rfl); (· (first | with_reducible assumption | with_reducible rfl | decide)))
                | (apply op_pick_f; (· exact rfl); (· exact rfl); (· (first | with_reducible assumption | with_reducible rfl | decide)); (· exact rfl))
                | (apply bx_next (c := cn) (w := w); (· exact rfl); (· exact rfl); (· assumption); (· (repeat (first | with_reducible exact Upd.here | with_reducible apply Upd.there | with_reducible apply upd_app))); (· exact hlt); (· exact hdec); intro H1 hB)
                | (apply op_at; (· exact rfl))
                | (apply dwp_cond_t; (· exact rfl); (· (first | with_reducible assumption | with_reducible rfl | decide)))
                | apply dwp_block
                | apply dwp_skip
                | apply dwp_ret
                | (refine ⟨_, rfl, ?_⟩)
                | fail)
            | false =>
              repeat' (first
                | dsimp only [putD, DV.cells, DH.new_next, DH.set_next, List.length_cons, List.length_nil, Nat.reduceAdd, List.set_cons_zero, List.set_cons_succ, getD_zero, getD_succ, fieldAt_zero, fieldAt_succ, thenD, blockD, retR]
                | apply dwp_seq
                | apply dwp_region
                | apply ops_nil
                | (apply ops_plain; (· exact rfl))
                | (apply ops_on; (· exact rfl); (· exact rfl); (· (first | with_reducible assumption | with_reducible rfl | decide)))
                | (apply op_pick_f; (· exact rfl); (· exact rfl); (· (first | with_reducible assumption | with_reducible rfl | decide)); (· exact rfl))
                | (apply bx_next (c := cn) (w := w); (· exact rfl); (· exact rfl); (· assumption); (· (repeat (first | with_reducible exact Upd.here | with_reducible apply Upd.there | with_reducible apply upd_app))); (· exact hlt); (· exact hdec); intro H1 hB)
                | (apply op_at; (· exact rfl))
                | (apply dwp_cond_t; (· exact rfl); (· (first | with_reducible assumption | with_reducible rfl | decide)))
                | (apply dwp_cond_f; (· exact rfl); (· (first | with_reducible assumption | with_reducible rfl | decide)))
                | apply dwp_block
                | apply dwp_skip
                | fail)
              have k1 : cn ≠ 10 := by
                have : ¬ (cn : Int) = 10 := by simpa using h10
                omega
              have k2 : cn ≠ 65533 := by
                have : ¬ (cn : Int) = 65533 := by simpa using h65
                omega
              refine ⟨⟨_, _, pos + w, junk_facts ⟨hB, by omega, fun h => hpl (plain_step hne hcw k1 k2 h)⟩ rfl rfl⟩, ?_⟩
              rw [posOf_at rfl (hB.get At.here), posOf_at rfl (hB0.get At.here)]
              omega
        · have hplain : Plain c := hpl (by rw [List.drop_eq_nil_of_le (by omega)]; exact plain_nil)
          have hp7 : 0 ≤ pad.tmod 7 ∧ pad.tmod 7 ≤ 6 := by
            have : pad.tmod 7 = pad % 7 := Int.tmod_eq_emod_of_nonneg hpad.1
            omega
          obtain ⟨pp, hpp⟩ : ∃ x, ([10, 10, 10, 10, 9, 32] : List UInt8).take (pad.tmod 7).toNat = x := ⟨_, rfl⟩
          have hpl6 : pp.length ≤ 6 := by rw [← hpp]; simp; omega
          have hpb : ∀ x ∈ pp, x = 32 ∨ x = 9 ∨ x = 10 := by
            intro x hx
            rw [← hpp] at hx
            have := List.mem_of_mem_take hx
            simp only [List.mem_cons, List.not_mem_nil, or_false] at this
            rcases this with h | h | h | h | h | h <;> simp [h]
          obtain ⟨r1, r2⟩ := remarks pp s c hpb hplain
          obtain ⟨r3, r4⟩ := remark_alone c hplain
          have l1 : s.length ≤ 65536 := by omega
          have l2 : (pp ++ s ++ [10, 35] ++ c).length ≤ 65536 := by simp; omega
          have l3 : ([35, 32] ++ c).length ≤ 65536 := by simp; omega
          have a1 : pp.length + s.length ≤ 4294967296 := by omega
          have a2 : (pp ++ s).length + 2 ≤ 4294967296 := by simp; omega
          have a3 : (pp ++ s ++ [10, 35]).length + c.length ≤ 4294967296 := by simp; omega
          have a4 : 2 + c.length ≤ 4294967296 := by omega
          by_cases he : (cutF s).e = 0
          · have het : (cutF (pp ++ s ++ [10, 35] ++ c)).e = 0 := by rw [r1]; exact he
            have htk := r2 he
            have hlt1 : (cutF s).toks.length ≤ 1000000 := by
              have k1 := goR_len (runes s) cu0 (1, 1)
              have k2 := runes_len _ s (Nat.le_refl _)
              have k3 : cu0.toks.length = 0 := rfl
              unfold cutF
              omega
            repeat' (first
              | dsimp only [putD, DV.cells, DH.new_next, DH.set_next, List.length_cons, List.length_nil, Nat.reduceAdd, List.set_cons_zero, List.set_cons_succ, getD_zero, getD_succ, fieldAt_zero, fieldAt_succ, thenD, blockD, retR]
              | apply dwp_seq
              | apply dwp_region
              | apply ops_nil
              | (apply ops_plain; (· exact rfl))
              | (apply ops_on; (· exact rfl); (· exact rfl); (· (first | with_reducible assumption | with_reducible rfl | decide)))
              | (apply op_call; (· exact rfl); (· exact rfl); (· exact rfl); (apply cut_ok (s := s); (· exact l1); (· exact he); (· assumption); intro s1 s2 x1 x2 H1 o1 o2 hB))
              | (apply op_call; (· exact rfl); (· exact rfl); (· exact rfl); (apply cut_ok (s := pp ++ s ++ [10, 35] ++ c); (· exact l2); (· exact het); (· assumption); intro s3 s4 x3 x4 H1 o3 o4 hB))
              | (apply op_call; (· exact rfl); (· exact rfl); (· exact rfl); (apply cut_ok (s := [35, 32] ++ c); (· exact l3); (· exact r3); (· assumption); intro s5 s6 x5 x6 H1 o5 o6 hB; have hn5 : ((s5.n : Int) == 0) = true := by rw [own_len o5, r4]; rfl))
              | (apply op_call; (· exact rfl); (· exact rfl); (· exact rfl); (obtain ⟨p1, c1, ex1, e1, sl1⟩ := o1.sl hB (by (repeat (first | with_reducible exact Ctx.here | with_reducible apply Ctx.cons | with_reducible apply Ctx.app))); obtain ⟨p3, c3, ex3, e3, sl3⟩ := o3.sl hB (by (repeat (first | with_reducible exact Ctx.here | with_reducible apply Ctx.cons | with_reducible apply Ctx.app))); rw [e1, e3, List.length_map, List.length_map]; refine (same25 sl1 sl3 hlt1).mono ?_; rintro r0 H' ⟨rfl, rfl⟩; rw [htk, decide_eq_true rfl]))
              | (apply op_pick_t; (· exact rfl); (· exact rfl); (· (first | with_reducible assumption | with_reducible rfl | decide)); (· exact rfl))
              | (apply bx_next_end; (· exact rfl); (· exact rfl); (· assumption); (· exact At.here); (· exact hlt))
              | (apply op_told; (· exact opD_strTake (m := pad.tmod 7) rfl rfl rfl rfl (by first | exact hp7 | exact ⟨hp7.1, Int.le_trans hp7.2 (by decide)⟩)); (· exact congrArg DV.str hpp))
              | (apply op_at; (· exact opD_strAdd rfl rfl rfl a1))
              | (apply op_at; (· exact opD_strAdd rfl rfl rfl a2))
              | (apply op_at; (· exact opD_strAdd rfl rfl rfl a3))
              | (apply op_at; (· exact opD_strAdd rfl rfl rfl a4))
              | (apply bx_store0; (· exact rfl); (· exact rfl); (· exact rfl); (· assumption); (· (first | (dsimp only [putD, DV.cells, DH.new_next, DH.set_next, List.length_cons, List.length_nil, Nat.reduceAdd, List.set_cons_zero, List.set_cons_succ, getD_zero, getD_succ, fieldAt_zero, fieldAt_succ, thenD, blockD, retR, Sv.cells]; done) | (dsimp only [putD, DV.cells, DH.new_next, DH.set_next, List.length_cons, List.length_nil, Nat.reduceAdd, List.set_cons_zero, List.set_cons_succ, getD_zero, getD_succ, fieldAt_zero, fieldAt_succ, thenD, blockD, retR, Sv.cells]; exact rfl) | exact rfl)); (· (repeat (first | with_reducible exact Upd.here | with_reducible apply Upd.there | with_reducible apply upd_app))); (· exact rfl); (· exact rfl); (· exact rfl); (· exact rfl); intro H1 hB)
              | (apply bx_alloc; (· exact rfl); (· exact zero49); (· (first | (dsimp only [putD, DV.cells, DH.new_next, DH.set_next, List.length_cons, List.length_nil, Nat.reduceAdd, List.set_cons_zero, List.set_cons_succ, getD_zero, getD_succ, fieldAt_zero, fieldAt_succ, thenD, blockD, retR, Sv.cells]; done) | (dsimp only [putD, DV.cells, DH.new_next, DH.set_next, List.length_cons, List.length_nil, Nat.reduceAdd, List.set_cons_zero, List.set_cons_succ, getD_zero, getD_succ, fieldAt_zero, fieldAt_succ, thenD, blockD, retR, Sv.cells]; exact rfl) | exact rfl)); (· exact rfl); (· exact rfl); (· assumption); intro b1 H1 hB)
              | (apply op_at; (· exact rfl))
              | (apply dwp_cond_f; (· exact rfl); (· (first | with_reducible assumption | with_reducible rfl | decide)))
              | apply dwp_ret
              | apply dwp_exit
              | (refine ⟨_, rfl, ?_⟩)
              | fail)
            rw [hn5]
          · have het : (cutF (pp ++ s ++ [10, 35] ++ c)).e ≠ 0 := by rw [r1]; exact he
            have heq : ((cutF s).e == (cutF (pp ++ s ++ [10, 35] ++ c)).e) = true := by rw [r1]; simp
            repeat' (first
              | dsimp only [putD, DV.cells, DH.new_next, DH.set_next, List.length_cons, List.length_nil, Nat.reduceAdd, List.set_cons_zero, List.set_cons_succ, getD_zero, getD_succ, fieldAt_zero, fieldAt_succ, thenD, blockD, retR]
              | apply dwp_seq
              | apply dwp_region
              | apply ops_nil
              | (apply ops_plain; (· exact rfl))
              | (apply ops_on; (· exact rfl); (· exact rfl); (· (first | with_reducible assumption | with_reducible rfl | decide)))
              | (apply op_call; (· exact rfl); (· exact rfl); (· exact rfl); (apply cut_err (s := s); (· exact l1); (· exact he); (· assumption); intro H1 hB))
              | (apply op_call; (· exact rfl); (· exact rfl); (· exact rfl); (apply cut_err (s := pp ++ s ++ [10, 35] ++ c); (· exact l2); (· exact het); (· assumption); intro H1 hB))
              | (apply op_call; (· exact rfl); (· exact rfl); (· exact rfl); (apply cut_ok (s := [35, 32] ++ c); (· exact l3); (· exact r3); (· assumption); intro s5 s6 x5 x6 H1 o5 o6 hB; have hn5 : ((s5.n : Int) == 0) = true := by rw [own_len o5, r4]; rfl))
              | (apply op_call; (· exact rfl); (· exact rfl); (· exact rfl); (refine (same25 (l := []) (m := []) (.nil rfl) (.nil rfl) (Nat.zero_le _)).mono ?_; rintro r0 H' ⟨rfl, rfl⟩; rw [decide_eq_true rfl]))
              | (apply op_pick_t; (· exact rfl); (· exact rfl); (· (first | with_reducible assumption | with_reducible rfl | decide)); (· exact rfl))
              | (apply bx_next_end; (· exact rfl); (· exact rfl); (· assumption); (· exact At.here); (· exact hlt))
              | (apply op_told; (· exact opD_strTake (m := pad.tmod 7) rfl rfl rfl rfl (by first | exact hp7 | exact ⟨hp7.1, Int.le_trans hp7.2 (by decide)⟩)); (· exact congrArg DV.str hpp))
              | (apply op_at; (· exact opD_strAdd rfl rfl rfl a1))
              | (apply op_at; (· exact opD_strAdd rfl rfl rfl a2))
              | (apply op_at; (· exact opD_strAdd rfl rfl rfl a3))
              | (apply op_at; (· exact opD_strAdd rfl rfl rfl a4))
              | (apply bx_store0; (· exact rfl); (· exact rfl); (· exact rfl); (· assumption); (· (first | (dsimp only [putD, DV.cells, DH.new_next, DH.set_next, List.length_cons, List.length_nil, Nat.reduceAdd, List.set_cons_zero, List.set_cons_succ, getD_zero, getD_succ, fieldAt_zero, fieldAt_succ, thenD, blockD, retR, Sv.cells]; done) | (dsimp only [putD, DV.cells, DH.new_next, DH.set_next, List.length_cons, List.length_nil, Nat.reduceAdd, List.set_cons_zero, List.set_cons_succ, getD_zero, getD_succ, fieldAt_zero, fieldAt_succ, thenD, blockD, retR, Sv.cells]; exact rfl) | exact rfl)); (· (repeat (first | with_reducible exact Upd.here | with_reducible apply Upd.there | with_reducible apply upd_app))); (· exact rfl); (· exact rfl); (· exact rfl); (· exact rfl); intro H1 hB)
              | (apply bx_alloc; (· exact rfl); (· exact zero49); (· (first | (dsimp only [putD, DV.cells, DH.new_next, DH.set_next, List.length_cons, List.length_nil, Nat.reduceAdd, List.set_cons_zero, List.set_cons_succ, getD_zero, getD_succ, fieldAt_zero, fieldAt_succ, thenD, blockD, retR, Sv.cells]; done) | (dsimp only [putD, DV.cells, DH.new_next, DH.set_next, List.length_cons, List.length_nil, Nat.reduceAdd, List.set_cons_zero, List.set_cons_succ, getD_zero, getD_succ, fieldAt_zero, fieldAt_succ, thenD, blockD, retR, Sv.cells]; exact rfl) | exact rfl)); (· exact rfl); (· exact rfl); (· assumption); intro b1 H1 hB)
              | (apply op_at; (· exact rfl))
              | (apply dwp_cond_f; (· exact rfl); (· (first | with_reducible assumption | with_reducible rfl | decide)))
              | apply dwp_ret
              | apply dwp_exit
              | (refine ⟨_, rfl, ?_⟩)
              | fail)
            rw [hn5]
end Go.Det.C
