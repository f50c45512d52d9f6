/- The reference's Same. -/
import Derived.Test.YtlmjhpnmfmnmgaaDoorLexB9
namespace Go.Det.C
open Go Go.Det Go.Proofs
set_option maxRecDepth 4000
set_option maxHeartbeats 4000000
set_option linter.unusedVariables false
set_option linter.unusedSimpArgs false
theorem eqTok (x y : Tok) : eqD Tryd.prog 57 (.agg x.row) (.agg y.row) = some (decide (x = y)) := by
  have h : eqD Tryd.prog 57 (.agg x.row) (.agg y.row) = andO (x.k == y.k) (andO (x.s == y.s) (andO (x.n == y.n) (andO (x.t == y.t) (some true)))) := by kernel_rfl
  rw [h]
  simp only [andO_some]
  refine congrArg some ?_
  rw [Bool.eq_iff_iff]
  cases x; cases y
  simp
theorem partTok (x : Tok) : partD Tryd.prog 57 x.row 0 = some (.agg x.row) := rfl
theorem same25 {H : DH} {p p' : Option (Nat × Nat × Nat)} {c c' : Nat} {ex ex' : Bool} {l m : List Tok} (hl : Sl H 4 (l.map Tok.row) p) (hm : Sl H 4 (m.map Tok.row) p') (hlen : l.length ≤ 1000000) :
    CallWp Tryd.prog X3 25 [.sl p l.length c ex, .sl p' m.length c' ex'] H (fun r H' => r = .bool (decide (l = m)) ∧ H' = H) := by
  by_cases hne : ((l.length : Int) != (m.length : Int)) = true
  · skip
    refine enter rfl Tryd.func25 rfl Tryd.ntmps25 rfl ?_
    dsimp only [List.cons_append, List.nil_append, List.length_cons, List.length_nil, List.replicate_succ, List.replicate_zero, Nat.reduceAdd, Nat.reduceSub]
    repeat' (first
      | dsimp only [putD, DV.cells, DH.new_next, DH.set_next, List.length_cons, List.length_nil, Nat.reduceAdd, List.set_cons_zero, List.set_cons_succ, getD_zero, getD_succ, fieldAt_zero, fieldAt_succ, thenD, blockD, retR]
      | apply dwp_seq
      | apply dwp_region
      | apply ops_nil
      | (apply ops_plain; (· exact rfl))
      | (apply op_at; (· exact rfl))
      | (apply dwp_cond_t; (· exact rfl); (· (first | with_reducible assumption | with_reducible rfl | decide)))
      | apply dwp_ret
      | (refine ⟨_, rfl, ?_⟩)
      | fail)
    refine ⟨?_, rfl⟩
    have : ¬ l = m := fun e => by subst e; simp at hne
    simp [this]
  · have hne' : ((l.length : Int) != (m.length : Int)) = false := by simpa using hne
    have hlm : l.length = m.length := by simp at hne'; omega
    refine enter rfl Tryd.func25 rfl Tryd.ntmps25 rfl ?_
    dsimp only [List.cons_append, List.nil_append, List.length_cons, List.length_nil, List.replicate_succ, List.replicate_zero, Nat.reduceAdd, Nat.reduceSub]
    repeat' (first
      | dsimp only [putD, DV.cells, DH.new_next, DH.set_next, List.length_cons, List.length_nil, Nat.reduceAdd, List.set_cons_zero, List.set_cons_succ, getD_zero, getD_succ, fieldAt_zero, fieldAt_succ, thenD, blockD, retR]
      | apply dwp_seq
      | apply dwp_region
      | apply ops_nil
      | (apply ops_plain; (· exact rfl))
      | (apply op_at; (· exact rfl))
      | (apply dwp_cond_f; (· exact rfl); (· (first | with_reducible assumption | with_reducible rfl | decide)))
      | apply dwp_block
      | apply dwp_skip
      | fail)
    refine dwp_loop (fun st => ∃ (k : Nat), ∃ J : Nat → DV, (k ≤ l.length ∧ ∀ i, i < k → l[i]? = m[i]?) ∧ st = ⟨[.sl p l.length c ex, .sl p' m.length c' ex', J 2, J 3, J 4, J 5, J 6, J 7, J 8, J 9, J 10, J 11, .int .i64 l.length, .int .i64 (k : Int), J 14, J 15, J 16, J 17, J 18, J 19, J 20, J 21, J 22, J 23, J 24, J 25], H⟩) (fun st => l.length - kOf st 13) (⟨0, junk_facts (⟨Nat.zero_le _, fun i h2 => absurd h2 (by omega)⟩) rfl rfl⟩) ?_
    rintro st ⟨k, J, ⟨hk, hbef⟩, rfl⟩
    by_cases hlt : k < l.length
    · obtain ⟨x, hx⟩ : ∃ x, l[k]? = some x := ⟨l[k], List.getElem?_eq_getElem hlt⟩
      obtain ⟨y, hy⟩ : ∃ y, m[k]? = some y := ⟨m[k]'(by omega), List.getElem?_eq_getElem _⟩
      obtain ⟨loc, i0, ro, rs, rfl, hloc, ho, hrx⟩ := hl.rd (k := k) (r := x.row) (by rw [List.getElem?_map, hx]; rfl)
      obtain ⟨loc', i0', ro', rs', rfl, hloc', ho', hry⟩ := hm.rd (k := k) (r := y.row) (by rw [List.getElem?_map, hy]; rfl)
      have hr1 : rs[i0 + ((k : Int)).toNat]? = some x.row := by rw [Int.toNat_natCast]; exact hrx
      have hr2 : rs'[i0' + ((k : Int)).toNat]? = some y.row := by rw [Int.toNat_natCast]; exact hry
      have hc : decide ((k : Int) < (l.length : Int)) = true := by simp [hlt]
      have hin1 : 0 ≤ (k : Int) ∧ (k : Int) < (l.length : Int) := by omega
      have hin2 : 0 ≤ (k : Int) ∧ (k : Int) < (m.length : Int) := by omega
      have hw : IntKind.i64.wrap ((k : Int) + 1) = ((k + 1 : Nat) : Int) := by rw [wrapI (by omega)]; rfl
      repeat' (first
        | dsimp only [putD, DV.cells, DH.new_next, DH.set_next, List.length_cons, List.length_nil, Nat.reduceAdd, List.set_cons_zero, List.set_cons_succ, getD_zero, getD_succ, fieldAt_zero, fieldAt_succ, thenD, blockD, retR]
        | (apply drawc_pure; (· (first | exact wanted_plain rfl | (apply wanted_on; (· exact rfl); (· exact rfl); (· (first | with_reducible assumption | with_reducible rfl | decide))))); (· exact rfl); (· exact rfl); (· exact opD_index rfl rfl rfl rfl rfl hin1))
        | (apply drawc_pure; (· (first | exact wanted_plain rfl | (apply wanted_on; (· exact rfl); (· exact rfl); (· (first | with_reducible assumption | with_reducible rfl | decide))))); (· exact rfl); (· exact rfl); (· exact opD_index rfl rfl rfl rfl rfl hin2))
        | (apply drawc_read_at; (· exact rfl); (· (first | exact wanted_plain rfl | (apply wanted_on; (· exact rfl); (· exact rfl); (· (first | with_reducible assumption | with_reducible rfl | decide))))); (· exact rfl); (· exact ho); (· with_reducible exact hr1); (· exact partTok x); (· decide +kernel))
        | (apply drawc_read_at; (· exact rfl); (· (first | exact wanted_plain rfl | (apply wanted_on; (· exact rfl); (· exact rfl); (· (first | with_reducible assumption | with_reducible rfl | decide))))); (· exact rfl); (· exact ho'); (· with_reducible exact hr2); (· exact partTok y); (· decide +kernel))
        | (apply drawc_pure; (· (first | exact wanted_plain rfl | (apply wanted_on; (· exact rfl); (· exact rfl); (· (first | with_reducible assumption | with_reducible rfl | decide))))); (· exact rfl); (· exact rfl); (· exact opD_neql rfl rfl rfl (eqTok x y)))
        | apply dwp_seq
        | apply dwp_region
        | apply ops_nil
        | (apply ops_plain; (· exact rfl))
        | (apply op_at; (· exact rfl))
        | refine dwp_drawc _ rfl ?_
        | apply drawc_nil
        | (apply drawc_pure; (· (first | exact wanted_plain rfl | (apply wanted_on; (· exact rfl); (· exact rfl); (· (first | with_reducible assumption | with_reducible rfl | decide))))); (· exact rfl); (· exact rfl); (· exact rfl))
        | (apply dwp_cond_t; (· exact rfl); (· (first | with_reducible assumption | with_reducible rfl | decide)))
        | (refine dwp_cond rfl ?_ ?_ <;> intro hb)
        | apply dwp_block
        | apply dwp_skip
        | apply dwp_ret
        | (refine ⟨_, rfl, ?_⟩)
        | fail)
      · refine ⟨?_, rfl⟩
        have hxy : ¬ x = y := by simpa using hb
        have : ¬ l = m := fun e => by subst e; rw [hx] at hy; cases hy; exact hxy rfl
        simp [this]
      · have hxy : x = y := by simpa using hb
        rw [hw]
        refine ⟨⟨k + 1, junk_facts (⟨by omega, fun i h2 => ?_⟩) rfl rfl⟩, ?_⟩
        · by_cases e : i = k
          · subst e; rw [hx, hy, hxy]
          · exact hbef i (by omega)
        · show l.length - ((k + 1 : Nat) : Int).toNat < l.length - (k : Int).toNat
          omega
    · have hc : decide ((k : Int) < (l.length : Int)) = false := by simp; omega
      repeat' (first
        | dsimp only [putD, DV.cells, DH.new_next, DH.set_next, List.length_cons, List.length_nil, Nat.reduceAdd, List.set_cons_zero, List.set_cons_succ, getD_zero, getD_succ, fieldAt_zero, fieldAt_succ, thenD, blockD, retR]
        | apply dwp_seq
        | apply dwp_region
        | apply ops_nil
        | (apply ops_plain; (· exact rfl))
        | (apply op_at; (· exact rfl))
        | (apply dwp_cond_f; (· exact rfl); (· (first | with_reducible assumption | with_reducible rfl | decide)))
        | apply dwp_ret
        | apply dwp_exit
        | (refine ⟨_, rfl, ?_⟩)
        | fail)
      refine ⟨?_, rfl⟩
      have : l = m := by
        apply List.ext_getElem?
        intro i
        by_cases hi : i < k
        · exact hbef i hi
        · rw [List.getElem?_eq_none (by omega), List.getElem?_eq_none (by omega)]
      simp [this]
end Go.Det.C

/- LexRemarks. -/
namespace Go.Det.C
open Go Go.Det Go.Proofs
set_option maxRecDepth 4000
set_option maxHeartbeats 4000000
set_option linter.unusedVariables false
set_option linter.unusedSimpArgs false
theorem opD_strAdd {P : Program} {cf : CallF} {o : Oper} {env : List DV} {H : DH} {t u : TypeId} {x y : Operand} {a b : List UInt8} (ho : o.op = .binOp .add t x y u) (hx : evalO env x = some (.str a)) (hy : evalO env y = some (.str b)) (hl : a.length + b.length ≤ 4294967296) : opD P cf o env H = some (.str (a ++ b), H) := by
  simp only [opD, ho, mover, reader, pureD, hx, hy, binD, strOpD, hl, if_true]
  rfl
section
variable {A H : DH} {bs : List (Nat × DObj)} {fs : List (DH → Prop)} {K : DV → DH → Prop}
theorem cut_err {s : List UInt8} (hs : s.length ≤ 65536) (he : (cutF s).e ≠ 0) (hB : Bx A H bs fs) (hk : ∀ H', Bx A H' bs fs → K (.tuple [.sl none 0 0 true, .sl none 0 0 true, .agg [.int .i64 (cutF s).w.1, .int .i64 (cutF s).w.2], .int .i64 (cutF s).e]) H') : CallWp Tryd.prog X3 24 [.str s] H K :=
  cut24 hs hB (fun _ => hk) (fun h => absurd h he)
theorem cut_ok {s : List UInt8} (hs : s.length ≤ 65536) (he : (cutF s).e = 0) (hB : Bx A H bs fs) (hk : ∀ (s1 s2 : Sv) x1 x2 H', Own1 4 ((cutF s).toks.map Tok.row) s1.dv x1 → Own1 2 ((cutF s).places.map placeRow) s2.dv x2 → Bx A H' (x1 ++ (x2 ++ bs)) fs → K (.tuple [s1.dv, s2.dv, .agg [.int .i64 0, .int .i64 0], .int .i64 0]) H') : CallWp Tryd.prog X3 24 [.str s] H K :=
  cut24 hs hB (fun h => absurd he h) (fun _ => hk)
end
/-- What the loop has seen is plain. -/
theorem plain_step {c : List UInt8} {pos cn w : Nat} (hne : c.drop pos ≠ []) (hd : decL (c.drop pos) = (cn, w)) (h1 : cn ≠ 10) (h2 : cn ≠ 65533) (h : Plain (c.drop (pos + w))) : Plain (c.drop pos) := by
  intro x hx
  rw [runes_cons hne, hd, List.drop_drop] at hx
  rcases List.mem_cons.mp hx with rfl | hx
  · refine ⟨?_, ?_⟩
    · unfold badL
      rw [hd]
      simp [h2]
    · simp only; omega
  · exact h x hx
theorem runes_len : ∀ (n : Nat) (l : List UInt8), l.length ≤ n → (runes l).length ≤ l.length := by
  intro n
  induction n with
  | zero => intro l hl; obtain rfl : l = [] := List.length_eq_zero_iff.mp (by omega); rw [runes_nil]; exact Nat.le_refl _
  | succ n ih =>
    intro l hl
    by_cases h : l = []
    · subst h; rw [runes_nil]; exact Nat.le_refl _
    · have hw := decL_width h
      have := ih (l.drop (decL l).2) (by rw [List.length_drop]; omega)
      rw [List.length_drop] at this
      rw [runes_cons h, List.length_cons]
      omega
theorem goR_len : ∀ (r : List (Int × Bool)) (c : Cu) (p : Int × Int), (goR r c p).toks.length ≤ c.toks.length + 3 * r.length + 1 := by
  intro r
  induction r with
  | nil => intro c p; have := (fin_len c).1; show c.fin.toks.length ≤ _; simp only [List.length_nil]; omega
  | cons x r ih =>
    intro c p
    have h := (step_len c p x).1
    rw [goR_cons, List.length_cons]
    split
    · have := ih (stepR c p x) (nextP p x.1); omega
    · omega
theorem plain_nil : Plain [] := by intro x hx; rw [runes_nil] at hx; cases hx
theorem remarks6 (s c : List UInt8) (pad : Int) (hpad : 0 ≤ pad ∧ pad ≤ 255) {A H : DH} (hB : Bx A H [] []) : CallWp Tryd.prog X3 6 [.str s, .str c, .int .u8 pad] H (fun r _ => r = .bool true) := by
  cases hfs : few s.length with
  | false =>
    refine enter rfl Tryd.func6 rfl Tryd.ntmps6 rfl ?_
    dsimp only [List.cons_append, List.nil_append, List.length_cons, List.length_nil, List.replicate_succ, List.replicate_zero, Nat.reduceAdd, Nat.reduceSub]
    repeat' (first
      | dsimp only [putD, DV.cells, DH.new_next, DH.set_next, List.length_cons, List.length_nil, Nat.reduceAdd, List.set_cons_zero, List.set_cons_succ, getD_zero, getD_succ, fieldAt_zero, fieldAt_succ, thenD, blockD, retR]
      | apply dwp_seq
      | apply dwp_region
      | apply ops_nil
      | (apply ops_plain; (· exact rfl))
      | (apply ops_off0; (· exact rfl); (· exact rfl); (· (first | with_reducible assumption | with_reducible rfl | decide)))
      | (apply op_call; (· exact rfl); (· exact rfl); (· exact rfl); refine call_table (g := gLive) rfl rfl ?_)
      | (apply op_call; (· exact rfl); (· exact rfl); (· exact rfl); (refine (few23 _ _).mono ?_; rintro r0 H' ⟨rfl, rfl⟩; (first | rw [hfs] | rw [hfc])))
      | (apply op_pick_t; (· exact rfl); (· exact rfl); (· (first | with_reducible assumption | with_reducible rfl | decide)); (· exact rfl))
      | (apply op_at; (· exact rfl))
      | (apply dwp_cond_t; (· exact rfl); (· (first | with_reducible assumption | with_reducible rfl | decide)))
      | apply dwp_ret
      | (refine ⟨_, rfl, ?_⟩)
      | fail)
  | true =>
    cases hfc : few c.length with
    | false =>
      refine enter rfl Tryd.func6 rfl Tryd.ntmps6 rfl ?_
      dsimp only [List.cons_append, List.nil_append, List.length_cons, List.length_nil, List.replicate_succ, List.replicate_zero, Nat.reduceAdd, Nat.reduceSub]
      repeat' (first
        | dsimp only [putD, DV.cells, DH.new_next, DH.set_next, List.length_cons, List.length_nil, Nat.reduceAdd, List.set_cons_zero, List.set_cons_succ, getD_zero, getD_succ, fieldAt_zero, fieldAt_succ, thenD, blockD, retR]
        | apply dwp_seq
        | apply dwp_region
        | apply ops_nil
        | (apply ops_plain; (· exact rfl))
        | (apply ops_on; (· exact rfl); (· exact rfl); (· (first | with_reducible assumption | with_reducible rfl | decide)))
        | (apply ops_off0; (· exact rfl); (· exact rfl); (· (first | with_reducible assumption | with_reducible rfl | decide)))
        | (apply op_call; (· exact rfl); (· exact rfl); (· exact rfl); refine call_table (g := gLive) rfl rfl ?_)
        | (apply op_call; (· exact rfl); (· exact rfl); (· exact rfl); (refine (few23 _ _).mono ?_; rintro r0 H' ⟨rfl, rfl⟩; (first | rw [hfs] | rw [hfc])))
        | (apply op_pick_t; (· exact rfl); (· exact rfl); (· (first | with_reducible assumption | with_reducible rfl | decide)); (· exact rfl))
        | (apply op_pick_f; (· exact rfl); (· exact rfl); (· (first | with_reducible assumption | with_reducible rfl | decide)); (· exact rfl))
        | (apply op_at; (· exact rfl))
        | (apply dwp_cond_t; (· exact rfl); (· (first | with_reducible assumption | with_reducible rfl | decide)))
        | apply dwp_ret
        | (refine ⟨_, rfl, ?_⟩)
        | fail)
    | true =>
      have hls : s.length < 131072 := by unfold few at hfs; simp at hfs; omega
      have hlc : c.length < 131072 := by unfold few at hfc; simp at hfc; omega
      have hsum : IntKind.i64.wrap ((s.length : Int) + (c.length : Int)) = ((s.length + c.length : Nat) : Int) := by
        rw [wrapI (by omega)]; omega
      cases hbig : decide (((s.length + c.length : Nat) : Int) > 3000) with
      | true =>
        refine enter rfl Tryd.func6 rfl Tryd.ntmps6 rfl ?_
        dsimp only [List.cons_append, List.nil_append, List.length_cons, List.length_nil, List.replicate_succ, List.replicate_zero, Nat.reduceAdd, Nat.reduceSub]
        repeat' (first
          | dsimp only [putD, DV.cells, DH.new_next, DH.set_next, List.length_cons, List.length_nil, Nat.reduceAdd, List.set_cons_zero, List.set_cons_succ, getD_zero, getD_succ, fieldAt_zero, fieldAt_succ, thenD, blockD, retR]
          | apply dwp_seq
          | apply dwp_region
          | apply ops_nil
          | (apply ops_plain; (· exact rfl))
          | (apply ops_on; (· exact rfl); (· exact rfl); (· (first | with_reducible assumption | with_reducible rfl | decide)))
          | (apply op_call; (· exact rfl); (· exact rfl); (· exact rfl); refine call_table (g := gLive) rfl rfl ?_)
          | (apply op_call; (· exact rfl); (· exact rfl); (· exact rfl); (refine (few23 _ _).mono ?_; rintro r0 H' ⟨rfl, rfl⟩; (first | rw [hfs] | rw [hfc])))
          | (apply op_pick_f; (· exact rfl); (· exact rfl); (· (first | with_reducible assumption | with_reducible rfl | decide)); (· exact rfl))
          | (apply op_told; (· exact rfl); (· exact congrArg (DV.int _) hsum))
          | (apply op_at; (· exact rfl))
          | (apply dwp_cond_t; (· exact rfl); (· (first | with_reducible assumption | with_reducible rfl | decide)))
          | apply dwp_ret
          | (refine ⟨_, rfl, ?_⟩)
          | fail)
      | false =>
        have hsm : s.length + c.length ≤ 3000 := by simp at hbig; omega
        refine enter rfl Tryd.func6 rfl Tryd.ntmps6 rfl ?_
        dsimp only [List.cons_append, List.nil_append, List.length_cons, List.length_nil, List.replicate_succ, List.replicate_zero, Nat.reduceAdd, Nat.reduceSub]
        repeat' (first
          | dsimp only [putD, DV.cells, DH.new_next, DH.set_next, List.length_cons, List.length_nil, Nat.reduceAdd, List.set_cons_zero, List.set_cons_succ, getD_zero, getD_succ, fieldAt_zero, fieldAt_succ, thenD, blockD, retR]
          | apply dwp_seq
          | apply dwp_region
          | apply ops_nil
          | (apply ops_plain; (· exact rfl))
          | (apply ops_on; (· exact rfl); (· exact rfl); (· (first | with_reducible assumption | with_reducible rfl | decide)))
          | (apply op_call; (· exact rfl); (· exact rfl); (· exact rfl); refine call_table (g := gLive) rfl rfl ?_)
          | (apply op_call; (· exact rfl); (· exact rfl); (· exact rfl); (refine (few23 _ _).mono ?_; rintro r0 H' ⟨rfl, rfl⟩; (first | rw [hfs] | rw [hfc])))
          | (apply op_pick_f; (· exact rfl); (· exact rfl); (· (first | with_reducible assumption | with_reducible rfl | decide)); (· exact rfl))
          | (apply op_told; (· exact rfl); (· exact congrArg (DV.int _) hsum))
          | (apply bx_range; (· exact rfl); (· exact rfl); (· exact rfl); (· assumption); intro bi H1 hB)
          | (apply op_at; (· exact rfl))
          | (apply dwp_cond_f; (· exact rfl); (· (first | with_reducible assumption | with_reducible rfl | decide)))
          | apply dwp_block
          | apply dwp_skip
          | fail)
        refine dwp_loop (fun st => ∃ (bi : Nat) (H1 : DH) (pos : Nat), ∃ J : Nat → DV, (Bx A H1 [(bi, .iter c pos)] [] ∧ pos ≤ c.length ∧ (Plain (c.drop pos) → Plain c)) ∧ st = ⟨(.str s :: .str c :: .int .u8 pad :: J 3 :: J 4 :: J 5 :: .bool false :: .bool true :: J 8 :: J 9 :: J 10 :: J 11 :: J 12 :: J 13 :: J 14 :: J 15 :: J 16 :: J 17 :: J 18 :: J 19 :: J 20 :: J 21 :: J 22 :: J 23 :: J 24 :: J 25 :: J 26 :: J 27 :: J 28 :: J 29 :: J 30 :: J 31 :: J 32 :: J 33 :: J 34 :: J 35 :: J 36 :: J 37 :: J 38 :: J 39 :: J 40 :: .ptr (some (bi, 0, 0)) :: J 42 :: J 43 :: J 44 :: J 45 :: J 46 :: J 47 :: J 48 :: J 49 :: J 50 :: J 51 :: J 52 :: J 53 :: J 54 :: J 55 :: J 56 :: J 57 :: J 58 :: J 59 :: J 60 :: J 61 :: J 62 :: J 63 :: J 64 :: J 65 :: J 66 :: J 67 :: J 68 :: J 69 :: J 70 :: J 71 :: J 72 :: J 73 :: J 74 :: J 75 :: J 76 :: J 77 :: J 78 :: J 79 :: J 80 :: J 81 :: J 82 :: J 83 :: J 84 :: J 85 :: J 86 :: J 87 :: J 88 :: J 89 :: J 90 :: J 91 :: J 92 :: J 93 :: J 94 :: J 95 :: J 96 :: J 97 :: J 98 :: J 99 :: J 100 :: []), H1⟩) (fun st => c.length - posOf st 41) (⟨_, _, 0, junk_facts (⟨hB, Nat.zero_le _, id⟩) rfl rfl⟩) ?_
        rintro st ⟨bi, H1, pos, J, ⟨hB, hpos, hpl⟩, rfl⟩
        by_cases hlt : pos < c.length
        · have hne : c.drop pos ≠ [] := by
            intro h
            have := congrArg List.length h
            rw [List.length_drop] at this
            simp at this
            omega
          obtain ⟨cn, w, hcw⟩ : ∃ cn w, decL (c.drop pos) = (cn, w) := ⟨_, _, rfl⟩
          have hww := decL_width hne
          rw [hcw, List.length_drop] at hww
          simp only at hww
          have hdec : Utf8.decode ⟨c.toArray⟩ pos = (cn, w) := by rw [decode_drop c pos hpos, hcw]
          have hB0 := hB
          cases h10 : ((cn : Int) == 10) with
          | true =>
            repeat' (first
              | dsimp only [putD, DV.cells, DH.new_next, DH.set_next, List.length_cons, List.length_nil, Nat.reduceAdd, List.set_cons_zero, List.set_cons_succ, getD_zero, getD_succ, fieldAt_zero, fieldAt_succ, thenD, blockD, retR]
              | apply dwp_seq
              | apply dwp_region
              | apply ops_nil
              | (apply ops_plain; (· exact rfl))
              | (apply ops_off0; (· exact rfl); (· exact rfl); (· (first | with_reducible assumption | with_reducible rfl | decide)))
              | (apply op_pick_t; (· exact rfl); (· exact rfl); (· (first | with_reducible assumption | with_reducible rfl | decide)); (· exact rfl))
              | (apply bx_next (c := cn) (w := w); (· exact rfl); (· exact rfl); (· assumption); (· (repeat (first | with_reducible exact Upd.here | with_reducible apply Upd.there | with_reducible apply upd_app))); (· exact hlt); (· exact hdec); intro H1 hB)
              | (apply op_at; (· exact rfl))
              | (apply dwp_cond_t; (· exact rfl); (· (first | with_reducible assumption | with_reducible rfl | decide)))
              | apply dwp_block
              | apply dwp_skip
              | apply dwp_ret
              | (refine ⟨_, rfl, ?_⟩)
              | fail)
          | false =>
            cases h65 : ((cn : Int) == 65533) with
            | true =>
              repeat' (first
                | dsimp only [putD, DV.cells, DH.new_next, DH.set_next, List.length_cons, List.length_nil, Nat.reduceAdd, List.set_cons_zero, List.set_cons_succ, getD_zero, getD_succ, fieldAt_zero, fieldAt_succ, thenD, blockD, retR]
                | apply dwp_seq
                | apply dwp_region
                | apply ops_nil
                | (apply ops_plain; (· exact rfl))
                | (apply ops_on; (· exact rfl); (· exact rfl); (· (first | with_reducible assumption | with_reducible rfl | decide)))
                | (apply op_pick_f; (· exact rfl); (· exact rfl); (· (first | with_reducible assumption | with_reducible rfl | decide)); (· exact rfl))
                | (apply bx_next (c := cn) (w := w); (· exact rfl); (· exact rfl); (· assumption); (· (repeat (first | with_reducible exact Upd.here | with_reducible apply Upd.there | with_reducible apply upd_app))); (· exact hlt); (· exact hdec); intro H1 hB)
                | (apply op_at; (· exact rfl))
                | (apply dwp_cond_t; (· exact rfl); (· (first | with_reducible assumption | with_reducible rfl | decide)))
                | apply dwp_block
                | apply dwp_skip
                | apply dwp_ret
                | (refine ⟨_, rfl, ?_⟩)
                | fail)
            | false =>
              repeat' (first
                | dsimp only [putD, DV.cells, DH.new_next, DH.set_next, List.length_cons, List.length_nil, Nat.reduceAdd, List.set_cons_zero, List.set_cons_succ, getD_zero, getD_succ, fieldAt_zero, fieldAt_succ, thenD, blockD, retR]
                | apply dwp_seq
                | apply dwp_region
                | apply ops_nil
                | (apply ops_plain; (· exact rfl))
                | (apply ops_on; (· exact rfl); (· exact rfl); (· (first | with_reducible assumption | with_reducible rfl | decide)))
                | (apply op_pick_f; (· exact rfl); (· exact rfl); (· (first | with_reducible assumption | with_reducible rfl | decide)); (· exact rfl))
                | (apply bx_next (c := cn) (w := w); (· exact rfl); (· exact rfl); (· assumption); (· (repeat (first | with_reducible exact Upd.here | with_reducible apply Upd.there | with_reducible apply upd_app))); (· exact hlt); (· exact hdec); intro H1 hB)
                | (apply op_at; (· exact rfl))
                | (apply dwp_cond_t; (· exact rfl); (· (first | with_reducible assumption | with_reducible rfl | decide)))
                | (apply dwp_cond_f; (· exact rfl); (· (first | with_reducible assumption | with_reducible rfl | decide)))
                | apply dwp_block
                | apply dwp_skip
                | fail)
              have k1 : cn ≠ 10 := by
                have : ¬ (cn : Int) = 10 := by simpa using h10
                omega
              have k2 : cn ≠ 65533 := by
                have : ¬ (cn : Int) = 65533 := by simpa using h65
                omega
              refine ⟨⟨_, _, pos + w, junk_facts ⟨hB, by omega, fun h => hpl (plain_step hne hcw k1 k2 h)⟩ rfl rfl⟩, ?_⟩
              rw [posOf_at rfl (hB.get At.here), posOf_at rfl (hB0.get At.here)]
              omega
        · have hplain : Plain c := hpl (by rw [List.drop_eq_nil_of_le (by omega)]; exact plain_nil)
          have hp7 : 0 ≤ pad.tmod 7 ∧ pad.tmod 7 ≤ 6 := by
            have : pad.tmod 7 = pad % 7 := Int.tmod_eq_emod_of_nonneg hpad.1
            omega
          obtain ⟨pp, hpp⟩ : ∃ x, ([10, 10, 10, 10, 9, 32] : List UInt8).take (pad.tmod 7).toNat = x := ⟨_, rfl⟩
          have hpl6 : pp.length ≤ 6 := by rw [← hpp]; simp; omega
          have hpb : ∀ x ∈ pp, x = 32 ∨ x = 9 ∨ x = 10 := by
            intro x hx
            rw [← hpp] at hx
            have := List.mem_of_mem_take hx
            simp only [List.mem_cons, List.not_mem_nil, or_false] at this
            rcases this with h | h | h | h | h | h <;> simp [h]
          obtain ⟨r1, r2⟩ := remarks pp s c hpb hplain
          obtain ⟨r3, r4⟩ := remark_alone c hplain
          have l1 : s.length ≤ 65536 := by omega
          have l2 : (pp ++ s ++ [10, 35] ++ c).length ≤ 65536 := by simp; omega
          have l3 : ([35, 32] ++ c).length ≤ 65536 := by simp; omega
          have a1 : pp.length + s.length ≤ 4294967296 := by omega
          have a2 : (pp ++ s).length + 2 ≤ 4294967296 := by simp; omega
          have a3 : (pp ++ s ++ [10, 35]).length + c.length ≤ 4294967296 := by simp; omega
          have a4 : 2 + c.length ≤ 4294967296 := by omega
          by_cases he : (cutF s).e = 0
          · have het : (cutF (pp ++ s ++ [10, 35] ++ c)).e = 0 := by rw [r1]; exact he
            have htk := r2 he
            have hlt1 : (cutF s).toks.length ≤ 1000000 := by
              have k1 := goR_len (runes s) cu0 (1, 1)
              have k2 := runes_len _ s (Nat.le_refl _)
              have k3 : cu0.toks.length = 0 := rfl
              unfold cutF
              omega
            repeat' (first
              | dsimp only [putD, DV.cells, DH.new_next, DH.set_next, List.length_cons, List.length_nil, Nat.reduceAdd, List.set_cons_zero, List.set_cons_succ, getD_zero, getD_succ, fieldAt_zero, fieldAt_succ, thenD, blockD, retR]
              | apply dwp_seq
              | apply dwp_region
              | apply ops_nil
              | (apply ops_plain; (· exact rfl))
              | (apply ops_on; (· exact rfl); (· exact rfl); (· (first | with_reducible assumption | with_reducible rfl | decide)))
              | (apply op_call; (· exact rfl); (· exact rfl); (· exact rfl); (apply cut_ok (s := s); (· exact l1); (· exact he); (· assumption); intro s1 s2 x1 x2 H1 o1 o2 hB))
              | (apply op_call; (· exact rfl); (· exact rfl); (· exact rfl); (apply cut_ok (s := pp ++ s ++ [10, 35] ++ c); (· exact l2); (· exact het); (· assumption); intro s3 s4 x3 x4 H1 o3 o4 hB))
              | (apply op_call; (· exact rfl); (· exact rfl); (· exact rfl); (apply cut_ok (s := [35, 32] ++ c); (· exact l3); (· exact r3); (· assumption); intro s5 s6 x5 x6 H1 o5 o6 hB; have hn5 : ((s5.n : Int) == 0) = true := by rw [own_len o5, r4]; rfl))
              | (apply op_call; (· exact rfl); (· exact rfl); (· exact rfl); (obtain ⟨p1, c1, ex1, e1, sl1⟩ := o1.sl hB (by (repeat (first | with_reducible exact Ctx.here | with_reducible apply Ctx.cons | with_reducible apply Ctx.app))); obtain ⟨p3, c3, ex3, e3, sl3⟩ := o3.sl hB (by (repeat (first | with_reducible exact Ctx.here | with_reducible apply Ctx.cons | with_reducible apply Ctx.app))); rw [e1, e3, List.length_map, List.length_map]; refine (same25 sl1 sl3 hlt1).mono ?_; rintro r0 H' ⟨rfl, rfl⟩; rw [htk, decide_eq_true rfl]))
              | (apply op_pick_t; (· exact rfl); (· exact rfl); (· (first | with_reducible assumption | with_reducible rfl | decide)); (· exact rfl))
              | (apply bx_next_end; (· exact rfl); (· exact rfl); (· assumption); (· exact At.here); (· exact hlt))
              | (apply op_told; (· exact opD_strTake (m := pad.tmod 7) rfl rfl rfl rfl (by first | exact hp7 | exact ⟨hp7.1, Int.le_trans hp7.2 (by decide)⟩)); (· exact congrArg DV.str hpp))
              | (apply op_at; (· exact opD_strAdd rfl rfl rfl a1))
              | (apply op_at; (· exact opD_strAdd rfl rfl rfl a2))
              | (apply op_at; (· exact opD_strAdd rfl rfl rfl a3))
              | (apply op_at; (· exact opD_strAdd rfl rfl rfl a4))
              | (apply bx_store0; (· exact rfl); (· exact rfl); (· exact rfl); (· assumption); (· (first | (dsimp only [putD, DV.cells, DH.new_next, DH.set_next, List.length_cons, List.length_nil, Nat.reduceAdd, List.set_cons_zero, List.set_cons_succ, getD_zero, getD_succ, fieldAt_zero, fieldAt_succ, thenD, blockD, retR, Sv.cells]; done) | (dsimp only [putD, DV.cells, DH.new_next, DH.set_next, List.length_cons, List.length_nil, Nat.reduceAdd, List.set_cons_zero, List.set_cons_succ, getD_zero, getD_succ, fieldAt_zero, fieldAt_succ, thenD, blockD, retR, Sv.cells]; exact rfl) | exact rfl)); (· (repeat (first | with_reducible exact Upd.here | with_reducible apply Upd.there | with_reducible apply upd_app))); (· exact rfl); (· exact rfl); (· exact rfl); (· exact rfl); intro H1 hB)
              | (apply bx_alloc; (· exact rfl); (· exact zero49); (· (first | (dsimp only [putD, DV.cells, DH.new_next, DH.set_next, List.length_cons, List.length_nil, Nat.reduceAdd, List.set_cons_zero, List.set_cons_succ, getD_zero, getD_succ, fieldAt_zero, fieldAt_succ, thenD, blockD, retR, Sv.cells]; done) | (dsimp only [putD, DV.cells, DH.new_next, DH.set_next, List.length_cons, List.length_nil, Nat.reduceAdd, List.set_cons_zero, List.set_cons_succ, getD_zero, getD_succ, fieldAt_zero, fieldAt_succ, thenD, blockD, retR, Sv.cells]; exact rfl) | exact rfl)); (· exact rfl); (· exact rfl); (· assumption); intro b1 H1 hB)
              | (apply op_at; (· exact rfl))
              | (apply dwp_cond_f; (· exact rfl); (· (first | with_reducible assumption | with_reducible rfl | decide)))
              | apply dwp_ret
              | apply dwp_exit
              | (refine ⟨_, rfl, ?_⟩)
              | fail)
            rw [hn5]
          · have het : (cutF (pp ++ s ++ [10, 35] ++ c)).e ≠ 0 := by rw [r1]; exact he
            have heq : ((cutF s).e == (cutF (pp ++ s ++ [10, 35] ++ c)).e) = true := by rw [r1]; simp
            repeat' (first
              | dsimp only [putD, DV.cells, DH.new_next, DH.set_next, List.length_cons, List.length_nil, Nat.reduceAdd, List.set_cons_zero, List.set_cons_succ, getD_zero, getD_succ, fieldAt_zero, fieldAt_succ, thenD, blockD, retR]
              | apply dwp_seq
              | apply dwp_region
              | apply ops_nil
              | (apply ops_plain; (· exact rfl))
              | (apply ops_on; (· exact rfl); (· exact rfl); (· (first | with_reducible assumption | with_reducible rfl | decide)))
              | (apply op_call; (· exact rfl); (· exact rfl); (· exact rfl); (apply cut_err (s := s); (· exact l1); (· exact he); (· assumption); intro H1 hB))
              | (apply op_call; (· exact rfl); (· exact rfl); (· exact rfl); (apply cut_err (s := pp ++ s ++ [10, 35] ++ c); (· exact l2); (· exact het); (· assumption); intro H1 hB))
              | (apply op_call; (· exact rfl); (· exact rfl); (· exact rfl); (apply cut_ok (s := [35, 32] ++ c); (· exact l3); (· exact r3); (· assumption); intro s5 s6 x5 x6 H1 o5 o6 hB; have hn5 : ((s5.n : Int) == 0) = true := by rw [own_len o5, r4]; rfl))
              | (apply op_call; (· exact rfl); (· exact rfl); (· exact rfl); (refine (same25 (l := []) (m := []) (.nil rfl) (.nil rfl) (Nat.zero_le _)).mono ?_; rintro r0 H' ⟨rfl, rfl⟩; rw [decide_eq_true rfl]))
              | (apply op_pick_t; (· exact rfl); (· exact rfl); (· (first | with_reducible assumption | with_reducible rfl | decide)); (· exact rfl))
              | (apply bx_next_end; (· exact rfl); (· exact rfl); (· assumption); (· exact At.here); (· exact hlt))
              | (apply op_told; (· exact opD_strTake (m := pad.tmod 7) rfl rfl rfl rfl (by first | exact hp7 | exact ⟨hp7.1, Int.le_trans hp7.2 (by decide)⟩)); (· exact congrArg DV.str hpp))
              | (apply op_at; (· exact opD_strAdd rfl rfl rfl a1))
              | (apply op_at; (· exact opD_strAdd rfl rfl rfl a2))
              | (apply op_at; (· exact opD_strAdd rfl rfl rfl a3))
              | (apply op_at; (· exact opD_strAdd rfl rfl rfl a4))
              | (apply bx_store0; (· exact rfl); (· exact rfl); (· exact rfl); (· assumption); (· (first | (dsimp only [putD, DV.cells, DH.new_next, DH.set_next, List.length_cons, List.length_nil, Nat.reduceAdd, List.set_cons_zero, List.set_cons_succ, getD_zero, getD_succ, fieldAt_zero, fieldAt_succ, thenD, blockD, retR, Sv.cells]; done) | (dsimp only [putD, DV.cells, DH.new_next, DH.set_next, List.length_cons, List.length_nil, Nat.reduceAdd, List.set_cons_zero, List.set_cons_succ, getD_zero, getD_succ, fieldAt_zero, fieldAt_succ, thenD, blockD, retR, Sv.cells]; exact rfl) | exact rfl)); (· (repeat (first | with_reducible exact Upd.here | with_reducible apply Upd.there | with_reducible apply upd_app))); (· exact rfl); (· exact rfl); (· exact rfl); (· exact rfl); intro H1 hB)
              | (apply bx_alloc; (· exact rfl); (· exact zero49); (· (first | (dsimp only [putD, DV.cells, DH.new_next, DH.set_next, List.length_cons, List.length_nil, Nat.reduceAdd, List.set_cons_zero, List.set_cons_succ, getD_zero, getD_succ, fieldAt_zero, fieldAt_succ, thenD, blockD, retR, Sv.cells]; done) | (dsimp only [putD, DV.cells, DH.new_next, DH.set_next, List.length_cons, List.length_nil, Nat.reduceAdd, List.set_cons_zero, List.set_cons_succ, getD_zero, getD_succ, fieldAt_zero, fieldAt_succ, thenD, blockD, retR, Sv.cells]; exact rfl) | exact rfl)); (· exact rfl); (· exact rfl); (· assumption); intro b1 H1 hB)
              | (apply op_at; (· exact rfl))
              | (apply dwp_cond_f; (· exact rfl); (· (first | with_reducible assumption | with_reducible rfl | decide)))
              | apply dwp_ret
              | apply dwp_exit
              | (refine ⟨_, rfl, ?_⟩)
              | fail)
            rw [hn5]
end Go.Det.C

/- LexNumbers. -/
namespace Go.Det.C
open Go Go.Det Go.Proofs
set_option maxRecDepth 4000
set_option maxHeartbeats 4000000
set_option linter.unusedVariables false
set_option linter.unusedSimpArgs false
section
variable {A H : DH} {bs : List (Nat × DObj)} {fs : List (DH → Prop)} {K : DV → DH → Prop}
end
end Go.Det.C

/- Regions that draw their order: what is read last, behind all that moved, beside what is read early. -/
namespace Go.Det
set_option linter.unusedVariables false
set_option linter.unusedSimpArgs false
section
variable {P : Program} {X : Ext}
/-- As DrawR; heaps that were are of one kind, those to come of another. -/
structure DrawT (P : Program) (X : Ext) (all : Array Oper) (bef : Array Nat) (ms : List Nat) (Φ Ψ : DH → Prop) (i : Nat) (l : List Oper) (st : DSt) (K : DSt → Prop) : Prop where
  ex : ∀ seen was, (∀ s ∈ seen, ∀ H', Ψ H' → readD P s.o (evalO s.env) H' = some s.v) → (∀ w ∈ was, w.i ∈ ms ∧ Φ w.H) → Ψ st.H → DrawWp P X all bef l i seen was st K
theorem dwp_drawt {id : Nat} {ops : Array Oper} {st : DSt} {Q : DExit → DSt → Prop} (bef : Array Nat) (hbef : Region.before ops = bef) (Φ : DH → Prop) (h0 : Φ st.H) (h : DrawT P X ops bef [] Φ Φ 0 ops.toList st (fun st' => Q .normal st')) : Dwp P X (.region id ops true) st Q :=
  dwp_draw bef hbef (h.ex [] [] (by simp) (by simp) h0)
section
variable {all : Array Oper} {bef : Array Nat} {ms : List Nat} {i : Nat} {Φ Ψ : DH → Prop} {o : Oper} {r : List Oper} {st : DSt} {K : DSt → Prop}
theorem drawt_nil (h : K st) : DrawT P X all bef ms Φ Ψ i [] st K := ⟨fun _ _ _ _ _ => draw_nil h⟩
theorem drawt_pure (hw : Region.wanted o (dyield all st.env) = true) (hm : mover P o.op = false) (hr : reader P o.op = false) {v : DV} (hv : opD P (fun _ _ _ => none) o st.env st.H = some (v, st.H))
    (h : DrawT P X all bef ms Φ Ψ (i + 1) r ⟨putD st.env o.dst v, st.H⟩ K) : DrawT P X all bef ms Φ Ψ i (o :: r) st K :=
  ⟨fun seen was hs hw' h0 => draw_pure hw hm hr (op_at hv (h.ex seen was hs hw' h0))⟩
/-- What is read alike in all heaps. -/
theorem drawt_read (hw : Region.wanted o (dyield all st.env) = true) (hm : mover P o.op = false) (hr : reader P o.op = true) {v : DV} (hv : ∀ H', Φ H' → opD P (fun _ _ _ => none) o st.env H' = some (v, H')) (hv2 : ∀ H', Ψ H' → opD P (fun _ _ _ => none) o st.env H' = some (v, H'))
    (h : DrawT P X all bef ms Φ Ψ (i + 1) r ⟨putD st.env o.dst v, st.H⟩ K) : DrawT P X all bef ms Φ Ψ i (o :: r) st K := by
  refine ⟨fun seen was hs hw' h0 => draw_read hw hm hr (op_at (hv2 _ h0) ⟨?_, h.ex _ was ?_ hw' h0⟩)⟩
  · unfold stillWas
    rw [List.all_eq_true]
    intro w m
    rw [Bool.or_eq_true]
    exact .inr (still_of ((opD_stays (hv _ (hw' w m).2) hm).2.1 hr))
  · intro s m
    rcases List.mem_cons.mp m with rfl | m
    · exact fun H' hp => (opD_stays (hv2 _ hp) hm).2.1 hr
    · exact hs s m
/-- What is read behind all that moved. -/
theorem drawt_last (hw : Region.wanted o (dyield all st.env) = true) (hm : mover P o.op = false) (hr : reader P o.op = true) (hb : bitsIn ms (bef.getD i 0) = true) {v : DV} (hv : opD P (fun _ _ _ => none) o st.env st.H = some (v, st.H))
    (h : DrawT P X all bef ms Φ (fun H' => Ψ H' ∧ readD P o (evalO st.env) H' = some v) (i + 1) r ⟨putD st.env o.dst v, st.H⟩ K) : DrawT P X all bef ms Φ Ψ i (o :: r) st K := by
  have hrd := (opD_stays hv hm).2.1 hr
  refine ⟨fun seen was hs hw' h0 => draw_read hw hm hr (op_at hv ⟨?_, h.ex _ was ?_ hw' ⟨h0, hrd⟩⟩)⟩
  · unfold stillWas
    rw [List.all_eq_true]
    intro w m
    rw [Bool.or_eq_true]
    exact .inl (bitsIn_at hb (hw' w m).1)
  · intro s m
    rcases List.mem_cons.mp m with rfl | m
    · exact fun H' hp => hp.2
    · exact fun H' hp => hs s m H' hp.1
theorem drawt_move (hw : Region.wanted o (dyield all st.env) = true) (hm : mover P o.op = true) (h0 : Ψ st.H → Φ st.H)
    (h : OpWp P X o st.env st.H (fun v H => Ψ H ∧ DrawT P X all bef (i :: ms) Φ Ψ (i + 1) r ⟨putD st.env o.dst v, H⟩ K)) : DrawT P X all bef ms Φ Ψ i (o :: r) st K := by
  refine ⟨fun seen was hs hw' hp => draw_move hw hm ?_⟩
  obtain ⟨k, v, H, h1, hH, h2⟩ := h.ex
  refine ⟨⟨k, v, H, h1, ?_, h2.ex _ _ hs ?_ hH⟩⟩
  · unfold stillAll
    rw [List.all_eq_true]
    intro s m
    rw [Bool.or_eq_true]
    exact .inr (still_of (hs s m _ hH))
  · intro w m
    rcases List.mem_cons.mp m with rfl | m
    · exact ⟨List.mem_cons_self, h0 hp⟩
    · exact ⟨List.mem_cons_of_mem _ (hw' w m).1, (hw' w m).2⟩
end
end
end Go.Det

/- Words; a time's text. -/
namespace Go.Det.C
open Go Go.Det Go.Proofs
set_option maxRecDepth 4000
set_option maxHeartbeats 4000000
set_option linter.unusedVariables false
set_option linter.unusedSimpArgs false
/-- Are these a word's runes? -/
def wordL : Bool → List (Int × Bool) → Bool
  | _, [] => true
  | f, x :: r => (isLet x.1 || (!f && isDgt x.1)) && wordL false r
def wordF (s : List UInt8) : Bool := wordL true (runes s) && (!(s == []) && decide (s.length ≤ 16))
section
variable {A H : DH} {bs : List (Nat × DObj)} {fs : List (DH → Prop)} {K : DV → DH → Prop}
theorem word33 {s : List UInt8} (hs : s.length ≤ 65536) (hB : Bx A H bs fs) (hK : ∀ H', Bx A H' bs fs → K (.bool (wordF s)) H') : CallWp Tryd.prog X3 33 [.str s] H K := by
  obtain ⟨W, hW⟩ : ∃ W, wordL true (runes s) = W := ⟨_, rfl⟩
  have hwf : wordF s = (W && (!(s == []) && decide (s.length ≤ 16))) := by unfold wordF; rw [hW]
  rw [hwf] at hK
  clear hwf
  refine enter rfl Tryd.func33 rfl Tryd.ntmps33 rfl ?_
  dsimp only [List.cons_append, List.nil_append, List.length_cons, List.length_nil, List.replicate_succ, List.replicate_zero, Nat.reduceAdd, Nat.reduceSub]
  repeat' (first
    | dsimp only [putD, DV.cells, DH.new_next, DH.set_next, List.length_cons, List.length_nil, Nat.reduceAdd, List.set_cons_zero, List.set_cons_succ, getD_zero, getD_succ, fieldAt_zero, fieldAt_succ, thenD, blockD, retR]
    | apply dwp_seq
    | apply dwp_region
    | apply ops_nil
    | (apply ops_plain; (· exact rfl))
    | (apply bx_range; (· exact rfl); (· exact rfl); (· exact rfl); (· assumption); intro bi H1 hB)
    | (apply op_at; (· exact rfl))
    | apply dwp_block
    | fail)
  refine dwp_loop (fun st => ∃ (bi : Nat) (H1 : DH) (pos : Nat), ∃ J : Nat → DV, (Bx A H1 ((bi, .iter s pos) :: bs) fs ∧ pos ≤ s.length ∧ wordL (decide (pos = 0)) (runes (s.drop pos)) = W) ∧ st = ⟨(.str s :: J 1 :: .bool false :: J 3 :: J 4 :: J 5 :: .ptr (some (bi, 0, 0)) :: J 7 :: J 8 :: J 9 :: J 10 :: J 11 :: J 12 :: J 13 :: J 14 :: J 15 :: J 16 :: J 17 :: J 18 :: J 19 :: J 20 :: J 21 :: J 22 :: J 23 :: J 24 :: J 25 :: J 26 :: J 27 :: J 28 :: J 29 :: []), H1⟩) (fun st => s.length - posOf st 6) (⟨_, _, 0, junk_facts (⟨hB, Nat.zero_le _, hW⟩) rfl rfl⟩) ?_
  rintro st ⟨bi, H1, pos, J, ⟨hB, hpos, hgo⟩, rfl⟩
  by_cases hlt : pos < s.length
  · have hne : s.drop pos ≠ [] := by
      intro h
      have := congrArg List.length h
      rw [List.length_drop] at this
      simp at this
      omega
    obtain ⟨cn, w, hcw⟩ : ∃ cn w, decL (s.drop pos) = (cn, w) := ⟨_, _, rfl⟩
    have hww := decL_width hne
    rw [hcw, List.length_drop] at hww
    simp only at hww
    have hdec : Utf8.decode ⟨s.toArray⟩ pos = (cn, w) := by rw [decode_drop s pos hpos, hcw]
    rw [runes_cons hne, hcw, List.drop_drop] at hgo
    unfold wordL at hgo
    simp only at hgo
    have hB0 := hB
    have hpw : decide (pos + w = 0) = false := by simp; omega
    cases hL : isLet (cn : Int) with
    | true =>
      rw [hL, Bool.true_or, Bool.true_and] at hgo
      repeat' (first
        | dsimp only [putD, DV.cells, DH.new_next, DH.set_next, List.length_cons, List.length_nil, Nat.reduceAdd, List.set_cons_zero, List.set_cons_succ, getD_zero, getD_succ, fieldAt_zero, fieldAt_succ, thenD, blockD, retR]
        | apply dwp_seq
        | apply dwp_region
        | apply ops_nil
        | (apply ops_plain; (· exact rfl))
        | (apply ops_off1; (· exact rfl); (· exact rfl); (· (first | with_reducible assumption | with_reducible rfl | decide)))
        | (apply ops_offn; (· exact rfl); (· exact rfl))
        | (apply op_call; (· exact rfl); (· exact rfl); (· exact rfl); (refine (letter62 _ _).mono ?_; rintro r0 H' ⟨rfl, rfl⟩; rw [hL]))
        | (apply op_pick_f; (· exact rfl); (· exact rfl); (· (first | with_reducible assumption | with_reducible rfl | decide)); (· exact rfl))
        | (apply bx_next (c := cn) (w := w); (· exact rfl); (· exact rfl); (· assumption); (· (repeat (first | with_reducible exact Upd.here | with_reducible apply Upd.there | with_reducible apply upd_app))); (· exact hlt); (· exact hdec); intro H1 hB)
        | (apply op_at; (· exact rfl))
        | (apply dwp_cond_t; (· exact rfl); (· (first | with_reducible assumption | with_reducible rfl | decide)))
        | (apply dwp_cond_f; (· exact rfl); (· (first | with_reducible assumption | with_reducible rfl | decide)))
        | apply dwp_block
        | apply dwp_skip
        | fail)
      refine ⟨⟨_, _, pos + w, junk_facts ⟨hB, by omega, by rw [hpw]; exact hgo⟩ rfl rfl⟩, ?_⟩
      rw [posOf_at rfl (hB.get (by (repeat (first | with_reducible exact At.here | with_reducible apply At.there | with_reducible apply at_app)))), posOf_at rfl (hB0.get (by (repeat (first | with_reducible exact At.here | with_reducible apply At.there | with_reducible apply at_app))))]
      omega
    | false =>
      rw [hL, Bool.false_or] at hgo
      cases h0 : ((pos : Int) == 0) with
      | true =>
        have h0' : decide (pos = 0) = true := by
          have : (pos : Int) = 0 := by simpa using h0
          simp; omega
        rw [h0'] at hgo
        rw [Bool.not_true, Bool.false_and, Bool.false_and] at hgo
        rw [← hgo, Bool.false_and] at hK
        repeat' (first
          | dsimp only [putD, DV.cells, DH.new_next, DH.set_next, List.length_cons, List.length_nil, Nat.reduceAdd, List.set_cons_zero, List.set_cons_succ, getD_zero, getD_succ, fieldAt_zero, fieldAt_succ, thenD, blockD, retR]
          | apply dwp_seq
          | apply dwp_region
          | apply ops_nil
          | (apply ops_plain; (· exact rfl))
          | (apply ops_on; (· exact rfl); (· exact rfl); (· (first | with_reducible assumption | with_reducible rfl | decide)))
          | (apply ops_off0; (· exact rfl); (· exact rfl); (· (first | with_reducible assumption | with_reducible rfl | decide)))
          | (apply op_call; (· exact rfl); (· exact rfl); (· exact rfl); (refine (letter62 _ _).mono ?_; rintro r0 H' ⟨rfl, rfl⟩; rw [hL]))
          | (apply op_pick_t; (· exact rfl); (· exact rfl); (· (first | with_reducible assumption | with_reducible rfl | decide)); (· exact rfl))
          | (apply bx_next (c := cn) (w := w); (· exact rfl); (· exact rfl); (· assumption); (· (repeat (first | with_reducible exact Upd.here | with_reducible apply Upd.there | with_reducible apply upd_app))); (· exact hlt); (· exact hdec); intro H1 hB)
          | (apply op_at; (· exact rfl))
          | (apply dwp_cond_t; (· exact rfl); (· (first | with_reducible assumption | with_reducible rfl | decide)))
          | apply dwp_block
          | apply dwp_skip
          | apply dwp_ret
          | (refine ⟨_, rfl, ?_⟩)
          | fail)
        exact hK _ (hB.sub (by (repeat (first | exact List.Sublist.refl _ | exact List.nil_sublist _ | apply List.Sublist.cons_cons | apply List.Sublist.cons | apply List.Sublist.append_left | refine List.Sublist.trans ?_ (List.sublist_append_right _ _)))))
      | false =>
        have h0' : decide (pos = 0) = false := by
          have : ¬ (pos : Int) = 0 := by simpa using h0
          simp; omega
        rw [h0', Bool.not_false, Bool.true_and] at hgo
        cases hD : isDgt (cn : Int) with
        | true =>
          rw [hD, Bool.true_and] at hgo
          repeat' (first
            | dsimp only [putD, DV.cells, DH.new_next, DH.set_next, List.length_cons, List.length_nil, Nat.reduceAdd, List.set_cons_zero, List.set_cons_succ, getD_zero, getD_succ, fieldAt_zero, fieldAt_succ, thenD, blockD, retR]
            | apply dwp_seq
            | apply dwp_region
            | apply ops_nil
            | (apply ops_plain; (· exact rfl))
            | (apply ops_on; (· exact rfl); (· exact rfl); (· (first | with_reducible assumption | with_reducible rfl | decide)))
            | (apply op_call; (· exact rfl); (· exact rfl); (· exact rfl); (refine (letter62 _ _).mono ?_; rintro r0 H' ⟨rfl, rfl⟩; rw [hL]))
            | (apply op_call; (· exact rfl); (· exact rfl); (· exact rfl); (refine (digit63 _ _).mono ?_; rintro r0 H' ⟨rfl, rfl⟩; rw [hD]))
            | (apply op_pick_t; (· exact rfl); (· exact rfl); (· (first | with_reducible assumption | with_reducible rfl | decide)); (· exact rfl))
            | (apply op_pick_f; (· exact rfl); (· exact rfl); (· (first | with_reducible assumption | with_reducible rfl | decide)); (· exact rfl))
            | (apply bx_next (c := cn) (w := w); (· exact rfl); (· exact rfl); (· assumption); (· (repeat (first | with_reducible exact Upd.here | with_reducible apply Upd.there | with_reducible apply upd_app))); (· exact hlt); (· exact hdec); intro H1 hB)
            | (apply op_at; (· exact rfl))
            | (apply dwp_cond_t; (· exact rfl); (· (first | with_reducible assumption | with_reducible rfl | decide)))
            | (apply dwp_cond_f; (· exact rfl); (· (first | with_reducible assumption | with_reducible rfl | decide)))
            | apply dwp_block
            | apply dwp_skip
            | fail)
          refine ⟨⟨_, _, pos + w, junk_facts ⟨hB, by omega, by rw [hpw]; exact hgo⟩ rfl rfl⟩, ?_⟩
          rw [posOf_at rfl (hB.get (by (repeat (first | with_reducible exact At.here | with_reducible apply At.there | with_reducible apply at_app)))), posOf_at rfl (hB0.get (by (repeat (first | with_reducible exact At.here | with_reducible apply At.there | with_reducible apply at_app))))]
          omega
        | false =>
          rw [hD, Bool.false_and] at hgo
          rw [← hgo, Bool.false_and] at hK
          repeat' (first
            | dsimp only [putD, DV.cells, DH.new_next, DH.set_next, List.length_cons, List.length_nil, Nat.reduceAdd, List.set_cons_zero, List.set_cons_succ, getD_zero, getD_succ, fieldAt_zero, fieldAt_succ, thenD, blockD, retR]
            | apply dwp_seq
            | apply dwp_region
            | apply ops_nil
            | (apply ops_plain; (· exact rfl))
            | (apply ops_on; (· exact rfl); (· exact rfl); (· (first | with_reducible assumption | with_reducible rfl | decide)))
            | (apply op_call; (· exact rfl); (· exact rfl); (· exact rfl); (refine (letter62 _ _).mono ?_; rintro r0 H' ⟨rfl, rfl⟩; rw [hL]))
            | (apply op_call; (· exact rfl); (· exact rfl); (· exact rfl); (refine (digit63 _ _).mono ?_; rintro r0 H' ⟨rfl, rfl⟩; rw [hD]))
            | (apply op_pick_t; (· exact rfl); (· exact rfl); (· (first | with_reducible assumption | with_reducible rfl | decide)); (· exact rfl))
            | (apply op_pick_f; (· exact rfl); (· exact rfl); (· (first | with_reducible assumption | with_reducible rfl | decide)); (· exact rfl))
            | (apply bx_next (c := cn) (w := w); (· exact rfl); (· exact rfl); (· assumption); (· (repeat (first | with_reducible exact Upd.here | with_reducible apply Upd.there | with_reducible apply upd_app))); (· exact hlt); (· exact hdec); intro H1 hB)
            | (apply op_at; (· exact rfl))
            | (apply dwp_cond_t; (· exact rfl); (· (first | with_reducible assumption | with_reducible rfl | decide)))
            | apply dwp_block
            | apply dwp_skip
            | apply dwp_ret
            | (refine ⟨_, rfl, ?_⟩)
            | fail)
          exact hK _ (hB.sub (by (repeat (first | exact List.Sublist.refl _ | exact List.nil_sublist _ | apply List.Sublist.cons_cons | apply List.Sublist.cons | apply List.Sublist.append_left | refine List.Sublist.trans ?_ (List.sublist_append_right _ _)))))
  · have hnil : s.drop pos = [] := List.drop_eq_nil_of_le (by omega)
    rw [hnil, runes_nil] at hgo
    unfold wordL at hgo
    rw [← hgo, Bool.true_and] at hK
    cases he : (!(s == [])) with
    | true =>
      rw [he, Bool.true_and] at hK
      have hd : decide ((s.length : Int) ≤ 16) = decide (s.length ≤ 16) := decide_eq_decide.mpr (by omega)
      repeat' (first
        | dsimp only [putD, DV.cells, DH.new_next, DH.set_next, List.length_cons, List.length_nil, Nat.reduceAdd, List.set_cons_zero, List.set_cons_succ, getD_zero, getD_succ, fieldAt_zero, fieldAt_succ, thenD, blockD, retR]
        | apply dwp_seq
        | apply dwp_region
        | apply ops_nil
        | (apply ops_plain; (· exact rfl))
        | (apply ops_on; (· exact rfl); (· exact rfl); (· (first | with_reducible assumption | with_reducible rfl | decide)))
        | (apply op_pick_t; (· exact rfl); (· exact rfl); (· (first | with_reducible assumption | with_reducible rfl | decide)); (· exact rfl))
        | (apply bx_next_end; (· exact rfl); (· exact rfl); (· assumption); (· (repeat (first | with_reducible exact At.here | with_reducible apply At.there | with_reducible apply at_app))); (· exact hlt))
        | (apply op_at; (· exact rfl))
        | (apply dwp_cond_f; (· exact rfl); (· (first | with_reducible assumption | with_reducible rfl | decide)))
        | apply dwp_ret
        | apply dwp_exit
        | (refine ⟨_, rfl, ?_⟩)
        | fail)
      rw [hd]
      exact hK _ (hB.sub (by (repeat (first | exact List.Sublist.refl _ | exact List.nil_sublist _ | apply List.Sublist.cons_cons | apply List.Sublist.cons | apply List.Sublist.append_left | refine List.Sublist.trans ?_ (List.sublist_append_right _ _)))))
    | false =>
      rw [he, Bool.false_and] at hK
      repeat' (first
        | dsimp only [putD, DV.cells, DH.new_next, DH.set_next, List.length_cons, List.length_nil, Nat.reduceAdd, List.set_cons_zero, List.set_cons_succ, getD_zero, getD_succ, fieldAt_zero, fieldAt_succ, thenD, blockD, retR]
        | apply dwp_seq
        | apply dwp_region
        | apply ops_nil
        | (apply ops_plain; (· exact rfl))
        | (apply ops_off1; (· exact rfl); (· exact rfl); (· (first | with_reducible assumption | with_reducible rfl | decide)))
        | (apply op_pick_f; (· exact rfl); (· exact rfl); (· (first | with_reducible assumption | with_reducible rfl | decide)); (· exact rfl))
        | (apply bx_next_end; (· exact rfl); (· exact rfl); (· assumption); (· (repeat (first | with_reducible exact At.here | with_reducible apply At.there | with_reducible apply at_app))); (· exact hlt))
        | (apply op_at; (· exact rfl))
        | (apply dwp_cond_f; (· exact rfl); (· (first | with_reducible assumption | with_reducible rfl | decide)))
        | apply dwp_ret
        | apply dwp_exit
        | (refine ⟨_, rfl, ?_⟩)
        | fail)
      exact hK _ (hB.sub (by (repeat (first | exact List.Sublist.refl _ | exact List.nil_sublist _ | apply List.Sublist.cons_cons | apply List.Sublist.cons | apply List.Sublist.append_left | refine List.Sublist.trans ?_ (List.sublist_append_right _ _)))))
theorem Ctx.again {x bs : List (Nat × DObj)} {F : List (Nat × DObj) → List (Nat × DObj)} (h : Ctx x bs F) (y : List (Nat × DObj)) : Ctx y (F y) F := by
  induction h with
  | one => exact .one
  | here => exact .here
  | cons _ ih => exact .cons ih
  | app _ ih => exact .app ih
theorem digits72 : ∀ (k n : Nat), n ≤ k → n < 1000000000000000000 → ∀ {A H : DH} {bs x : List (Nat × DObj)} {F : List (Nat × DObj) → List (Nat × DObj)} {fs : List (DH → Prop)} {K : DV → DH → Prop} (l : List UInt8) (s : Sv), l.length + (decN n).length ≤ 1000 → Own1 1 (rowsB l) s.dv x → Bx A H bs fs → Ctx x bs F → (∀ (s' : Sv) x' H', Own1 1 (rowsB (l ++ decN n)) s'.dv x' → Bx A H' (F x') fs → K s'.dv H') → CallWp Tryd.prog X3 72 [s.dv, .int .u64 (n : Int)] H K := by
  intro k
  induction k with
  | zero =>
    intro n hn hm A H bs x F fs K l s hl o3 hB hc3 hK
    obtain rfl : n = 0 := by omega
    rw [decN_lt (by decide)] at hK hl
    have hl3 : (rowsB l).length + 1 ≤ mostD := by rw [rowsB_len]; unfold mostD; simp at hl; omega
    have hc : decide (((0 : Nat) : Int) > 9) = false := by decide
    have hrem : ((0 : Nat) : Int).tmod 10 = 0 := rfl
    have hu2 : IntKind.u8.wrap (48 + 0) = ((UInt8.ofNat (48 + 0)).toNat : Int) := rfl
    have hu1 : IntKind.u8.wrap 0 = 0 := rfl
    have hrows : rowsB (l ++ [UInt8.ofNat (48 + 0)]) = rowsB l ++ [[.int .u8 ((UInt8.ofNat (48 + 0)).toNat : Int)]] := by simp [rowsB]
    refine enter rfl Tryd.func72 rfl Tryd.ntmps72 rfl ?_
    dsimp only [List.cons_append, List.nil_append, List.length_cons, List.length_nil, List.replicate_succ, List.replicate_zero, Nat.reduceAdd, Nat.reduceSub]
    repeat' (first
      | dsimp only [putD, DV.cells, DH.new_next, DH.set_next, List.length_cons, List.length_nil, Nat.reduceAdd, List.set_cons_zero, List.set_cons_succ, getD_zero, getD_succ, fieldAt_zero, fieldAt_succ, thenD, blockD, retR]
      | apply dwp_seq
      | apply dwp_region
      | apply ops_nil
      | (apply ops_plain; (· exact rfl))
      | (apply op_at; (· exact opD_rem rfl rfl rfl (by decide) hrem))
      | (apply op_told; (· exact rfl); (· exact congrArg (DV.int _) hu1))
      | (apply op_told; (· exact rfl); (· exact congrArg (DV.int _) hu2))
      | (apply bx_build1 et68; (· exact rfl); (· exact rfl); (· exact rfl); (· exact rfl); (· exact rfl); (· decide); (· assumption); intro bn H1 hB)
      | (apply op_append_s; (· exact rfl); (· exact rfl); (· exact rfl); (· exact rfl); (· exact et68); (· exact o3); (· assumption); (· (repeat (first | with_reducible exact hc3 | with_reducible exact Ctx.here | with_reducible apply Ctx.cons | with_reducible apply Ctx.app))); (· exact At.here); (· exact rfl); (· exact rfl); (· assumption); intro t3 y3 H1 q3 hB)
      | (apply op_at; (· exact rfl))
      | (apply dwp_cond_f; (· exact rfl); (· (first | with_reducible assumption | with_reducible rfl | decide)))
      | apply dwp_skip
      | apply dwp_ret
      | (refine ⟨_, rfl, ?_⟩)
      | fail)
    exact hK t3 y3 _ (by rw [hrows]; exact q3) (hB.sub (by (repeat (first | exact List.Sublist.refl _ | exact List.nil_sublist _ | apply List.Sublist.cons_cons | apply List.Sublist.cons | apply List.Sublist.append_left | refine List.Sublist.trans ?_ (List.sublist_append_right _ _)))))
  | succ k ih =>
    intro n hn hm A H bs x F fs K l s hl o3 hB hc3 hK
    have hm10 : n % 10 < 10 := Nat.mod_lt _ (by decide)
    have hrem : (n : Int).tmod 10 = ((n % 10 : Nat) : Int) := by rw [Int.tmod_eq_emod_of_nonneg (by omega)]; omega
    have hu1 : IntKind.u8.wrap ((n % 10 : Nat) : Int) = ((n % 10 : Nat) : Int) := wrapB (by omega)
    have hu2 : IntKind.u8.wrap (48 + ((n % 10 : Nat) : Int)) = ((UInt8.ofNat (48 + n % 10)).toNat : Int) := by rw [(ofNat_dig hm10).1, wrapB (by omega)]; omega
    by_cases h9 : n < 10
    · have hc : decide ((n : Int) > 9) = false := by simp; omega
      rw [decN_lt h9] at hK hl
      have hl3 : (rowsB l).length + 1 ≤ mostD := by rw [rowsB_len]; unfold mostD; simp at hl; omega
      have hrows : rowsB (l ++ [UInt8.ofNat (48 + n)]) = rowsB l ++ [[.int .u8 ((UInt8.ofNat (48 + n % 10)).toNat : Int)]] := by rw [Nat.mod_eq_of_lt h9]; simp [rowsB]
      refine enter rfl Tryd.func72 rfl Tryd.ntmps72 rfl ?_
      dsimp only [List.cons_append, List.nil_append, List.length_cons, List.length_nil, List.replicate_succ, List.replicate_zero, Nat.reduceAdd, Nat.reduceSub]
      repeat' (first
        | dsimp only [putD, DV.cells, DH.new_next, DH.set_next, List.length_cons, List.length_nil, Nat.reduceAdd, List.set_cons_zero, List.set_cons_succ, getD_zero, getD_succ, fieldAt_zero, fieldAt_succ, thenD, blockD, retR]
        | apply dwp_seq
        | apply dwp_region
        | apply ops_nil
        | (apply ops_plain; (· exact rfl))
        | (apply op_at; (· exact opD_rem rfl rfl rfl (by decide) hrem))
        | (apply op_told; (· exact rfl); (· exact congrArg (DV.int _) hu1))
        | (apply op_told; (· exact rfl); (· exact congrArg (DV.int _) hu2))
        | (apply bx_build1 et68; (· exact rfl); (· exact rfl); (· exact rfl); (· exact rfl); (· exact rfl); (· decide); (· assumption); intro bn H1 hB)
        | (apply op_append_s; (· exact rfl); (· exact rfl); (· exact rfl); (· exact rfl); (· exact et68); (· exact o3); (· assumption); (· (repeat (first | with_reducible exact hc3 | with_reducible exact Ctx.here | with_reducible apply Ctx.cons | with_reducible apply Ctx.app))); (· exact At.here); (· exact rfl); (· exact rfl); (· assumption); intro t3 y3 H1 q3 hB)
        | (apply op_at; (· exact rfl))
        | (apply dwp_cond_f; (· exact rfl); (· (first | with_reducible assumption | with_reducible rfl | decide)))
        | apply dwp_skip
        | apply dwp_ret
        | (refine ⟨_, rfl, ?_⟩)
        | fail)
      exact hK t3 y3 _ (by rw [hrows]; exact q3) (hB.sub (by (repeat (first | exact List.Sublist.refl _ | exact List.nil_sublist _ | apply List.Sublist.cons_cons | apply List.Sublist.cons | apply List.Sublist.append_left | refine List.Sublist.trans ?_ (List.sublist_append_right _ _)))))
    · have hc : decide ((n : Int) > 9) = true := by simp; omega
      have hquo : IntKind.u64.wrap ((n : Int).tdiv 10) = ((n / 10 : Nat) : Int) := by rw [Int.tdiv_eq_ediv_of_nonneg (by omega), wrapU (by omega)]; omega
      rw [decN_ge h9] at hK hl
      rw [List.length_append] at hl
      simp only [List.length_cons, List.length_nil] at hl
      have hl1 : l.length + (decN (n / 10)).length ≤ 1000 := by omega
      have hl3 : (rowsB (l ++ decN (n / 10))).length + 1 ≤ mostD := by rw [rowsB_len, List.length_append]; unfold mostD; omega
      have hrows : rowsB (l ++ (decN (n / 10) ++ [UInt8.ofNat (48 + n % 10)])) = rowsB (l ++ decN (n / 10)) ++ [[.int .u8 ((UInt8.ofNat (48 + n % 10)).toNat : Int)]] := by simp [rowsB]
      refine enter rfl Tryd.func72 rfl Tryd.ntmps72 rfl ?_
      dsimp only [List.cons_append, List.nil_append, List.length_cons, List.length_nil, List.replicate_succ, List.replicate_zero, Nat.reduceAdd, Nat.reduceSub]
      repeat' (first
        | dsimp only [putD, DV.cells, DH.new_next, DH.set_next, List.length_cons, List.length_nil, Nat.reduceAdd, List.set_cons_zero, List.set_cons_succ, getD_zero, getD_succ, fieldAt_zero, fieldAt_succ, thenD, blockD, retR]
        | apply dwp_seq
        | apply dwp_region
        | apply ops_nil
        | (apply ops_plain; (· exact rfl))
        | (apply op_call; (· exact rfl); (· exact rfl); (· exact rfl); (apply ih (n / 10) (by omega) (by omega) l s hl1 o3 (by assumption) hc3; intro s' x' H1 o3 hB; replace hc3 := Ctx.again hc3 x'))
        | (apply op_at; (· exact opD_rem rfl rfl rfl (by decide) hrem))
        | (apply op_at; (· exact opD_quo rfl rfl rfl (by decide) hquo))
        | (apply op_told; (· exact rfl); (· exact congrArg (DV.int _) hu1))
        | (apply op_told; (· exact rfl); (· exact congrArg (DV.int _) hu2))
        | (apply bx_build1 et68; (· exact rfl); (· exact rfl); (· exact rfl); (· exact rfl); (· exact rfl); (· decide); (· assumption); intro bn H1 hB)
        | (apply op_append_s; (· exact rfl); (· exact rfl); (· exact rfl); (· exact rfl); (· exact et68); (· exact o3); (· assumption); (· (repeat (first | with_reducible exact hc3 | with_reducible exact Ctx.here | with_reducible apply Ctx.cons | with_reducible apply Ctx.app))); (· exact At.here); (· exact rfl); (· exact rfl); (· assumption); intro t3 y3 H1 q3 hB)
        | (apply op_at; (· exact rfl))
        | (apply dwp_cond_t; (· exact rfl); (· (first | with_reducible assumption | with_reducible rfl | decide)))
        | apply dwp_ret
        | (refine ⟨_, rfl, ?_⟩)
        | fail)
      exact hK t3 y3 _ (by rw [hrows]; exact q3) (hB.sub (by (repeat (first | exact List.Sublist.refl _ | exact List.nil_sublist _ | apply List.Sublist.cons_cons | apply List.Sublist.cons | apply List.Sublist.append_left | refine List.Sublist.trans ?_ (List.sublist_append_right _ _)))))
end
end Go.Det.C

/- A time's text; a token's text. -/
namespace Go.Det.C
open Go Go.Det Go.Proofs
set_option maxRecDepth 4000
set_option maxHeartbeats 4000000
set_option linter.unusedVariables false
set_option linter.unusedSimpArgs false
/-- The greatest unit of which a time is so many. -/
def pickU (n : Nat) : Nat × List UInt8 := if n = 0 then (1, [112, 115]) else if n % 1000000000000 = 0 then (1000000000000, [115]) else if n % 1000000000 = 0 then (1000000000, [109, 115]) else if n % 1000000 = 0 then (1000000, [117, 115]) else if n % 1000 = 0 then (1000, [110, 115]) else (1, [112, 115])
def sgnF (t : Int) : List UInt8 := if t < 0 then [45] else []
def ptextF (t : Int) : List UInt8 := sgnF t ++ decN (t.natAbs / (pickU t.natAbs).1) ++ (pickU t.natAbs).2
theorem up13 : ExtLe X1 X3 := extLe_more (M := []) (T := [(83, gNum), (96, gRead)]) (E := E1) (by decide +kernel)
theorem et112 : ElemT Tryd.prog 112 2 1 8 (.int .i64 0) := ⟨rfl, rfl, rfl, by kernel_rfl, by decide, by decide, rfl, rfl⟩
theorem opD_str_own {P : Program} {cf : CallF} {o : Oper} {env : List DV} {A H : DH} {bs : List (Nat × DObj)} {fs : List (DH → Prop)} {s t e : TypeId} {x : Operand} {v : DV} {l : List UInt8} {bx : List (Nat × DObj)} {F : List (Nat × DObj) → List (Nat × DObj)} (ho : o.op = .convert s t x) (hx : evalO env x = some v) (hs : P.underlying s = some (.slice e)) (ht : P.underlying t = some .string) (he : P.underlying e = some (.int .u8))
    (hown : Own1 1 (rowsB l) v bx) (hB : Bx A H bs fs) (hc : Ctx bx bs F) : opD P cf o env H = some (.str l, H) := by
  obtain ⟨p, c, ex, rfl, hsl⟩ := hown.sl hB hc
  have hm : mover P (.convert s t x) = false := by simp [mover, hs, ht]
  have hr : reader P (.convert s t x) = true := by simp [reader, hs, ht]
  simp only [opD, ho, hm, hr, if_true, readD, hs, ht, hx, he, hsl.rows, bytesOf_rows, Option.map_some, Bool.false_eq_true, if_false]
section
variable {A H : DH} {bs : List (Nat × DObj)} {fs : List (DH → Prop)} {K : DV → DH → Prop}
theorem ptext39 {t : Int} (ht : -1000000000000000000 < t ∧ t < 1000000000000000000) (hB : Bx A H bs fs) (hK : ∀ H', Bx A H' bs fs → K (.tuple [.str (ptextF t), .int .i64 0]) H') : CallWp Tryd.prog X3 39 [.int .i64 t] H K := by
  have ft : Fit t := by unfold Fit; omega
  obtain ⟨n, hn⟩ : ∃ n, t.natAbs = n := ⟨_, rfl⟩
  have hnm : n < 1000000000000000000 := by omega
  obtain ⟨sg, hsg⟩ : ∃ sg, sgnF t = sg := ⟨_, rfl⟩
  have hsl : sg.length ≤ 1 := by rw [← hsg]; unfold sgnF; split <;> simp
  unfold ptextF at hK
  rw [hn, hsg] at hK
  have hr1 : (n : Int).tmod (IntKind.u64.wrap 1000000000000) = ((n % 1000000000000 : Nat) : Int) := by rw [show IntKind.u64.wrap 1000000000000 = 1000000000000 from rfl, Int.tmod_eq_emod_of_nonneg (by omega)]; omega
  have hq1 : IntKind.u64.wrap ((n : Int).tdiv (IntKind.u64.wrap 1000000000000)) = ((n / 1000000000000 : Nat) : Int) := by rw [show IntKind.u64.wrap 1000000000000 = 1000000000000 from rfl, Int.tdiv_eq_ediv_of_nonneg (by omega), wrapU (by omega)]; omega
  have hr2 : (n : Int).tmod (IntKind.u64.wrap 1000000000) = ((n % 1000000000 : Nat) : Int) := by rw [show IntKind.u64.wrap 1000000000 = 1000000000 from rfl, Int.tmod_eq_emod_of_nonneg (by omega)]; omega
  have hq2 : IntKind.u64.wrap ((n : Int).tdiv (IntKind.u64.wrap 1000000000)) = ((n / 1000000000 : Nat) : Int) := by rw [show IntKind.u64.wrap 1000000000 = 1000000000 from rfl, Int.tdiv_eq_ediv_of_nonneg (by omega), wrapU (by omega)]; omega
  have hr3 : (n : Int).tmod (IntKind.u64.wrap 1000000) = ((n % 1000000 : Nat) : Int) := by rw [show IntKind.u64.wrap 1000000 = 1000000 from rfl, Int.tmod_eq_emod_of_nonneg (by omega)]; omega
  have hq3 : IntKind.u64.wrap ((n : Int).tdiv (IntKind.u64.wrap 1000000)) = ((n / 1000000 : Nat) : Int) := by rw [show IntKind.u64.wrap 1000000 = 1000000 from rfl, Int.tdiv_eq_ediv_of_nonneg (by omega), wrapU (by omega)]; omega
  have hr4 : (n : Int).tmod (IntKind.u64.wrap 1000) = ((n % 1000 : Nat) : Int) := by rw [show IntKind.u64.wrap 1000 = 1000 from rfl, Int.tmod_eq_emod_of_nonneg (by omega)]; omega
  have hq4 : IntKind.u64.wrap ((n : Int).tdiv (IntKind.u64.wrap 1000)) = ((n / 1000 : Nat) : Int) := by rw [show IntKind.u64.wrap 1000 = 1000 from rfl, Int.tdiv_eq_ediv_of_nonneg (by omega), wrapU (by omega)]; omega
  have hr5 : (n : Int).tmod (IntKind.u64.wrap 1) = ((n % 1 : Nat) : Int) := by rw [show IntKind.u64.wrap 1 = 1 from rfl, Int.tmod_eq_emod_of_nonneg (by omega)]; omega
  have hq5 : IntKind.u64.wrap ((n : Int).tdiv (IntKind.u64.wrap 1)) = ((n / 1 : Nat) : Int) := by rw [show IntKind.u64.wrap 1 = 1 from rfl, Int.tdiv_eq_ediv_of_nonneg (by omega), wrapU (by omega)]; omega
  have hdl : ∀ m, m ≤ n → (decN m).length ≤ 18 := fun m hm => decN_len 17 m (by omega)
  have hm45 : rowsB [45] = [[DV.int .u8 45]] := rfl
  refine enter rfl Tryd.func39 rfl Tryd.ntmps39 rfl ?_
  dsimp only [List.cons_append, List.nil_append, List.length_cons, List.length_nil, List.replicate_succ, List.replicate_zero, Nat.reduceAdd, Nat.reduceSub]
  repeat' (first
    | dsimp only [putD, DV.cells, DH.new_next, DH.set_next, List.length_cons, List.length_nil, Nat.reduceAdd, List.set_cons_zero, List.set_cons_succ, getD_zero, getD_succ, fieldAt_zero, fieldAt_succ, thenD, blockD, retR]
    | (refine dwp_cutCond (t := 13) (fun st => ∃ (s3 : Sv) (x3 : List (Nat × DObj)) (H1 : DH), ∃ J : Nat → DV, (Own1 1 (rowsB sg) s3.dv x3 ∧ Bx A H1 (x3 ++ bs) fs) ∧ st = ⟨(.int .i64 t :: J 1 :: .str [] :: .int .i64 0 :: s3.dv :: J 5 :: J 6 :: J 7 :: J 8 :: J 9 :: J 10 :: J 11 :: J 12 :: J 13 :: J 14 :: J 15 :: J 16 :: J 17 :: J 18 :: J 19 :: J 20 :: J 21 :: J 22 :: J 23 :: J 24 :: J 25 :: J 26 :: J 27 :: J 28 :: J 29 :: J 30 :: J 31 :: J 32 :: J 33 :: J 34 :: J 35 :: J 36 :: J 37 :: J 38 :: J 39 :: J 40 :: J 41 :: J 42 :: J 43 :: J 44 :: J 45 :: J 46 :: J 47 :: J 48 :: J 49 :: []), H1⟩) ?_ ?_)
    | apply dwp_seq
    | apply dwp_region
    | apply ops_nil
    | (apply ops_plain; (· exact rfl))
    | (apply op_call; (· exact rfl); (· exact rfl); (· exact rfl); (refine (CallWp.up up13 (may69x (.one (Bx.get (by assumption) At.here) ft))).mono ?_; rintro r H' ⟨rfl, rfl⟩))
    | (apply bx_build1 et112; (· exact rfl); (· exact rfl); (· exact rfl); (· exact rfl); (· exact rfl); (· decide); (· assumption); intro bn H1 hB)
    | (apply op_at; (· exact rfl))
    | (apply dwp_cond_f; (· exact rfl); (· (first | with_reducible assumption | with_reducible rfl | decide)))
    | apply dwp_skip
    | fail)
  · refine ⟨?_⟩
    by_cases hneg : t < 0
    · have hc : decide (t < 0) = true := by simpa using hneg
      have hsg' : sg = [45] := by rw [← hsg]; unfold sgnF; rw [if_pos hneg]
      repeat' (first
        | dsimp only [putD, DV.cells, DH.new_next, DH.set_next, List.length_cons, List.length_nil, Nat.reduceAdd, List.set_cons_zero, List.set_cons_succ, getD_zero, getD_succ, fieldAt_zero, fieldAt_succ, thenD, blockD, retR]
        | apply dwp_region
        | apply ops_nil
        | (apply ops_plain; (· exact rfl))
        | (apply bx_build1 et68; (· exact rfl); (· exact rfl); (· exact rfl); (· exact rfl); (· exact rfl); (· decide); (· assumption); intro bn H1 hB)
        | (apply op_append_s (R := []) (bx := []) (s := .sl none 0 0 true); (· exact rfl); (· exact rfl); (· exact rfl); (· exact rfl); (· exact et68); (· exact .nil rfl); (· assumption); (· exact Ctx.cons (Ctx.here (bx := []))); (· exact At.here); (· exact rfl); (· exact rfl); (· unfold mostD; decide); intro t3 y3 H1 q3 hB)
        | (apply op_at; (· exact rfl))
        | (apply dwp_cond_t; (· exact rfl); (· (first | with_reducible assumption | with_reducible rfl | decide)))
        | fail)
      exact ⟨rfl, t3, y3, _, junk_facts ⟨by rw [hsg', hm45]; exact q3, (hB.sub (by (repeat (first | exact List.Sublist.refl _ | exact List.nil_sublist _ | apply List.Sublist.cons_cons | apply List.Sublist.cons | apply List.Sublist.append_left | refine List.Sublist.trans ?_ (List.sublist_append_right _ _)))))⟩ rfl rfl⟩
    · have hc : decide (t < 0) = false := by simpa using hneg
      have hsg' : sg = [] := by rw [← hsg]; unfold sgnF; rw [if_neg hneg]
      repeat' (first
        | (apply dwp_cond_f; (· exact rfl); (· (first | with_reducible assumption | with_reducible rfl | decide)))
        | apply dwp_skip
        | fail)
      exact ⟨rfl, ⟨none, 0, 0, true⟩, [], _, junk_facts ⟨by rw [hsg']; exact .nil rfl, (hB.sub (by (repeat (first | exact List.Sublist.refl _ | exact List.nil_sublist _ | apply List.Sublist.cons_cons | apply List.Sublist.cons | apply List.Sublist.append_left | refine List.Sublist.trans ?_ (List.sublist_append_right _ _)))))⟩ rfl rfl⟩
  · rintro st ⟨s3, x3, H1, J, ⟨o3, hB⟩, rfl⟩
    try dsimp only [thenD]
    by_cases hn0 : n = 0
    · have hp0 : decide ((n : Int) > 0) = false := by simp; omega
      have hpk : pickU n = (1, [112, 115]) := by unfold pickU; rw [if_pos hn0]
      rw [hpk] at hK
      have hz1 : (((n % 1000000000000 : Nat) : Int) == 0) = true := by subst hn0; rfl
      have hz2 : (((n % 1000000000 : Nat) : Int) == 0) = true := by subst hn0; rfl
      have hz3 : (((n % 1000000 : Nat) : Int) == 0) = true := by subst hn0; rfl
      have hz4 : (((n % 1000 : Nat) : Int) == 0) = true := by subst hn0; rfl
      have hz5 : (((n % 1 : Nat) : Int) == 0) = true := by subst hn0; rfl
      have hdm : n / 1 < 1000000000000000000 := by omega
      have hdl1 := hdl (n / 1) (by omega)
      have hdl3 : sg.length + (decN (n / 1)).length ≤ 1000 := by omega
      have hadd : (sg ++ decN (n / 1)).length + 2 ≤ 4294967296 := by rw [List.length_append]; omega
      repeat' (first
        | dsimp only [putD, DV.cells, DH.new_next, DH.set_next, List.length_cons, List.length_nil, Nat.reduceAdd, List.set_cons_zero, List.set_cons_succ, getD_zero, getD_succ, fieldAt_zero, fieldAt_succ, thenD, blockD, retR]
        | refine dwp_drawt _ rfl (fun H' => Bx A H' [(b1, .rows false 2 [[.str [112, 115], .int .i64 1]])] fs) (hB.sub (by (repeat (first | exact List.Sublist.refl _ | exact List.nil_sublist _ | apply List.Sublist.cons_cons | apply List.Sublist.cons | apply List.Sublist.append_left | refine List.Sublist.trans ?_ (List.sublist_append_right _ _))))) ?_
        | apply drawt_nil
        | (apply drawt_read; (· (first | exact wanted_plain rfl | (apply wanted_on; (· exact rfl); (· exact rfl); (· (first | with_reducible assumption | with_reducible rfl | decide))))); (· exact rfl); (· exact rfl); (· intro H' h; have h : Bx _ H' _ _ := h; exact opD_load rfl rfl (h.get At.here) rfl rfl); (· intro H' h; have h : Bx _ H' _ _ := (by first | exact h | exact h.1); exact opD_load rfl rfl (h.get At.here) rfl rfl))
        | (apply drawt_pure; (· (first | exact wanted_plain rfl | (apply wanted_on; (· exact rfl); (· exact rfl); (· (first | with_reducible assumption | with_reducible rfl | decide))))); (· exact rfl); (· exact rfl); (· exact opD_quo rfl rfl rfl (by decide) hq5))
        | (apply drawt_pure; (· (first | exact wanted_plain rfl | (apply wanted_on; (· exact rfl); (· exact rfl); (· (first | with_reducible assumption | with_reducible rfl | decide))))); (· exact rfl); (· exact rfl); (· exact opD_strAdd rfl rfl rfl hadd))
        | (apply drawt_pure; (· (first | exact wanted_plain rfl | (apply wanted_on; (· exact rfl); (· exact rfl); (· (first | with_reducible assumption | with_reducible rfl | decide))))); (· exact rfl); (· exact rfl); (· exact rfl))
        | (apply drawt_move; (· (first | exact wanted_plain rfl | (apply wanted_on; (· exact rfl); (· exact rfl); (· (first | with_reducible assumption | with_reducible rfl | decide))))); (· exact rfl); (· exact id))
        | (apply drawt_last; (· (first | exact wanted_plain rfl | (apply wanted_on; (· exact rfl); (· exact rfl); (· (first | with_reducible assumption | with_reducible rfl | decide))))); (· exact rfl); (· exact rfl); (· decide +kernel); (· exact opD_str_own rfl rfl rfl rfl rfl q3 (by assumption) (by (repeat (first | with_reducible exact Ctx.here | with_reducible apply Ctx.cons | with_reducible apply Ctx.app)))))
        | refine dwp_round ?_
        | apply dwp_seq
        | apply dwp_region
        | apply ops_nil
        | (apply ops_plain; (· exact rfl))
        | (apply ops_on; (· exact rfl); (· exact rfl); (· (first | with_reducible assumption | with_reducible rfl | decide)))
        | (apply op_call; (· exact rfl); (· exact rfl); (· exact rfl); (refine (CallWp.up up13 (size70x ft _)).mono ?_; rintro r H' ⟨rfl, rfl⟩; rw [hn]))
        | (apply op_call; (· exact rfl); (· exact rfl); (· exact rfl); refine call_table (g := gUnits) rfl rfl ?_)
        | (apply op_call; (· exact rfl); (· exact rfl); (· exact rfl); (apply digits72 (n / 1) (n / 1) (Nat.le_refl _) hdm sg s3 hdl3 o3; (· assumption); (· (repeat (first | with_reducible exact Ctx.here | with_reducible apply Ctx.cons | with_reducible apply Ctx.app))); intro s' x' H1 q3 hB; refine ⟨(hB.sub (by (repeat (first | exact List.Sublist.refl _ | exact List.nil_sublist _ | apply List.Sublist.cons_cons | apply List.Sublist.cons | apply List.Sublist.append_left | refine List.Sublist.trans ?_ (List.sublist_append_right _ _))))), ?_⟩))
        | (apply op_pick_t; (· exact rfl); (· exact rfl); (· (first | with_reducible assumption | with_reducible rfl | decide)); (· exact rfl))
        | (apply op_pick_f; (· exact rfl); (· exact rfl); (· (first | with_reducible assumption | with_reducible rfl | decide)); (· exact rfl))
        | (apply op_at; (· exact opD_rem rfl rfl rfl (by decide) hr1))
        | (apply op_at; (· exact opD_rem rfl rfl rfl (by decide) hr2))
        | (apply op_at; (· exact opD_rem rfl rfl rfl (by decide) hr3))
        | (apply op_at; (· exact opD_rem rfl rfl rfl (by decide) hr4))
        | (apply op_at; (· exact opD_rem rfl rfl rfl (by decide) hr5))
        | (apply bx_load0; (· exact rfl); (· exact rfl); (· assumption); (· (repeat (first | with_reducible exact At.here | with_reducible apply At.there | with_reducible apply at_app))); (· (first | exact part107 _ _ | exact rfl)))
        | (apply bx_store0; (· exact rfl); (· exact rfl); (· exact rfl); (· assumption); (· (first | (dsimp only [putD, DV.cells, DH.new_next, DH.set_next, List.length_cons, List.length_nil, Nat.reduceAdd, List.set_cons_zero, List.set_cons_succ, getD_zero, getD_succ, fieldAt_zero, fieldAt_succ, thenD, blockD, retR, Sv.cells]; done) | (dsimp only [putD, DV.cells, DH.new_next, DH.set_next, List.length_cons, List.length_nil, Nat.reduceAdd, List.set_cons_zero, List.set_cons_succ, getD_zero, getD_succ, fieldAt_zero, fieldAt_succ, thenD, blockD, retR, Sv.cells]; exact rfl) | exact rfl)); (· (repeat (first | with_reducible exact Upd.here | with_reducible apply Upd.there | with_reducible apply upd_app))); (· exact rfl); (· exact rfl); (· exact rfl); (· exact rfl); intro H1 hB)
        | (apply bx_alloc; (· exact rfl); (· exact zero107); (· (first | (dsimp only [putD, DV.cells, DH.new_next, DH.set_next, List.length_cons, List.length_nil, Nat.reduceAdd, List.set_cons_zero, List.set_cons_succ, getD_zero, getD_succ, fieldAt_zero, fieldAt_succ, thenD, blockD, retR, Sv.cells]; done) | (dsimp only [putD, DV.cells, DH.new_next, DH.set_next, List.length_cons, List.length_nil, Nat.reduceAdd, List.set_cons_zero, List.set_cons_succ, getD_zero, getD_succ, fieldAt_zero, fieldAt_succ, thenD, blockD, retR, Sv.cells]; exact rfl) | exact rfl)); (· exact rfl); (· exact rfl); (· assumption); intro b1 H1 hB)
        | (apply op_at; (· exact rfl))
        | (apply dwp_cond_t; (· exact rfl); (· (first | with_reducible assumption | with_reducible rfl | decide)))
        | (apply dwp_cond_f; (· exact rfl); (· (first | with_reducible assumption | with_reducible rfl | decide)))
        | apply dwp_block
        | apply dwp_skip
        | apply dwp_ret
        | (refine ⟨_, rfl, ?_⟩)
        | fail)
      exact hK _ (hB.sub (by (repeat (first | exact List.Sublist.refl _ | exact List.nil_sublist _ | apply List.Sublist.cons_cons | apply List.Sublist.cons | apply List.Sublist.append_left | refine List.Sublist.trans ?_ (List.sublist_append_right _ _)))))
    · have hp0 : decide ((n : Int) > 0) = true := by simp; omega
      by_cases hd1 : n % 1000000000000 = 0
      · have hz1 : (((n % 1000000000000 : Nat) : Int) == 0) = true := by rw [hd1]; rfl
        have hpk : pickU n = (1000000000000, [115]) := by unfold pickU; rw [if_neg hn0, if_pos hd1]
        rw [hpk] at hK
        have hdm : n / 1000000000000 < 1000000000000000000 := by omega
        have hdl1 := hdl (n / 1000000000000) (by omega)
        have hdl3 : sg.length + (decN (n / 1000000000000)).length ≤ 1000 := by omega
        have hadd : (sg ++ decN (n / 1000000000000)).length + 1 ≤ 4294967296 := by rw [List.length_append]; omega
        repeat' (first
          | dsimp only [putD, DV.cells, DH.new_next, DH.set_next, List.length_cons, List.length_nil, Nat.reduceAdd, List.set_cons_zero, List.set_cons_succ, getD_zero, getD_succ, fieldAt_zero, fieldAt_succ, thenD, blockD, retR]
          | refine dwp_drawt _ rfl (fun H' => Bx A H' [(b1, .rows false 2 [[.str [115], .int .i64 1000000000000]])] fs) (hB.sub (by (repeat (first | exact List.Sublist.refl _ | exact List.nil_sublist _ | apply List.Sublist.cons_cons | apply List.Sublist.cons | apply List.Sublist.append_left | refine List.Sublist.trans ?_ (List.sublist_append_right _ _))))) ?_
          | apply drawt_nil
          | (apply drawt_read; (· (first | exact wanted_plain rfl | (apply wanted_on; (· exact rfl); (· exact rfl); (· (first | with_reducible assumption | with_reducible rfl | decide))))); (· exact rfl); (· exact rfl); (· intro H' h; have h : Bx _ H' _ _ := h; exact opD_load rfl rfl (h.get At.here) rfl rfl); (· intro H' h; have h : Bx _ H' _ _ := (by first | exact h | exact h.1); exact opD_load rfl rfl (h.get At.here) rfl rfl))
          | (apply drawt_pure; (· (first | exact wanted_plain rfl | (apply wanted_on; (· exact rfl); (· exact rfl); (· (first | with_reducible assumption | with_reducible rfl | decide))))); (· exact rfl); (· exact rfl); (· exact opD_quo rfl rfl rfl (by decide) hq1))
          | (apply drawt_pure; (· (first | exact wanted_plain rfl | (apply wanted_on; (· exact rfl); (· exact rfl); (· (first | with_reducible assumption | with_reducible rfl | decide))))); (· exact rfl); (· exact rfl); (· exact opD_strAdd rfl rfl rfl hadd))
          | (apply drawt_pure; (· (first | exact wanted_plain rfl | (apply wanted_on; (· exact rfl); (· exact rfl); (· (first | with_reducible assumption | with_reducible rfl | decide))))); (· exact rfl); (· exact rfl); (· exact rfl))
          | (apply drawt_move; (· (first | exact wanted_plain rfl | (apply wanted_on; (· exact rfl); (· exact rfl); (· (first | with_reducible assumption | with_reducible rfl | decide))))); (· exact rfl); (· exact id))
          | (apply drawt_last; (· (first | exact wanted_plain rfl | (apply wanted_on; (· exact rfl); (· exact rfl); (· (first | with_reducible assumption | with_reducible rfl | decide))))); (· exact rfl); (· exact rfl); (· decide +kernel); (· exact opD_str_own rfl rfl rfl rfl rfl q3 (by assumption) (by (repeat (first | with_reducible exact Ctx.here | with_reducible apply Ctx.cons | with_reducible apply Ctx.app)))))
          | refine dwp_round ?_
          | apply dwp_seq
          | apply dwp_region
          | apply ops_nil
          | (apply ops_plain; (· exact rfl))
          | (apply ops_on; (· exact rfl); (· exact rfl); (· (first | with_reducible assumption | with_reducible rfl | decide)))
          | (apply ops_off0; (· exact rfl); (· exact rfl); (· (first | with_reducible assumption | with_reducible rfl | decide)))
          | (apply op_call; (· exact rfl); (· exact rfl); (· exact rfl); (refine (CallWp.up up13 (size70x ft _)).mono ?_; rintro r H' ⟨rfl, rfl⟩; rw [hn]))
          | (apply op_call; (· exact rfl); (· exact rfl); (· exact rfl); refine call_table (g := gUnits) rfl rfl ?_)
          | (apply op_call; (· exact rfl); (· exact rfl); (· exact rfl); (apply digits72 (n / 1000000000000) (n / 1000000000000) (Nat.le_refl _) hdm sg s3 hdl3 o3; (· assumption); (· (repeat (first | with_reducible exact Ctx.here | with_reducible apply Ctx.cons | with_reducible apply Ctx.app))); intro s' x' H1 q3 hB; refine ⟨(hB.sub (by (repeat (first | exact List.Sublist.refl _ | exact List.nil_sublist _ | apply List.Sublist.cons_cons | apply List.Sublist.cons | apply List.Sublist.append_left | refine List.Sublist.trans ?_ (List.sublist_append_right _ _))))), ?_⟩))
          | (apply op_pick_t; (· exact rfl); (· exact rfl); (· (first | with_reducible assumption | with_reducible rfl | decide)); (· exact rfl))
          | (apply op_at; (· exact opD_rem rfl rfl rfl (by decide) hr1))
          | (apply bx_load0; (· exact rfl); (· exact rfl); (· assumption); (· (repeat (first | with_reducible exact At.here | with_reducible apply At.there | with_reducible apply at_app))); (· (first | exact part107 _ _ | exact rfl)))
          | (apply bx_store0; (· exact rfl); (· exact rfl); (· exact rfl); (· assumption); (· (first | (dsimp only [putD, DV.cells, DH.new_next, DH.set_next, List.length_cons, List.length_nil, Nat.reduceAdd, List.set_cons_zero, List.set_cons_succ, getD_zero, getD_succ, fieldAt_zero, fieldAt_succ, thenD, blockD, retR, Sv.cells]; done) | (dsimp only [putD, DV.cells, DH.new_next, DH.set_next, List.length_cons, List.length_nil, Nat.reduceAdd, List.set_cons_zero, List.set_cons_succ, getD_zero, getD_succ, fieldAt_zero, fieldAt_succ, thenD, blockD, retR, Sv.cells]; exact rfl) | exact rfl)); (· (repeat (first | with_reducible exact Upd.here | with_reducible apply Upd.there | with_reducible apply upd_app))); (· exact rfl); (· exact rfl); (· exact rfl); (· exact rfl); intro H1 hB)
          | (apply bx_alloc; (· exact rfl); (· exact zero107); (· (first | (dsimp only [putD, DV.cells, DH.new_next, DH.set_next, List.length_cons, List.length_nil, Nat.reduceAdd, List.set_cons_zero, List.set_cons_succ, getD_zero, getD_succ, fieldAt_zero, fieldAt_succ, thenD, blockD, retR, Sv.cells]; done) | (dsimp only [putD, DV.cells, DH.new_next, DH.set_next, List.length_cons, List.length_nil, Nat.reduceAdd, List.set_cons_zero, List.set_cons_succ, getD_zero, getD_succ, fieldAt_zero, fieldAt_succ, thenD, blockD, retR, Sv.cells]; exact rfl) | exact rfl)); (· exact rfl); (· exact rfl); (· assumption); intro b1 H1 hB)
          | (apply op_at; (· exact rfl))
          | (apply dwp_cond_t; (· exact rfl); (· (first | with_reducible assumption | with_reducible rfl | decide)))
          | apply dwp_block
          | apply dwp_skip
          | apply dwp_ret
          | (refine ⟨_, rfl, ?_⟩)
          | fail)
        exact hK _ (hB.sub (by (repeat (first | exact List.Sublist.refl _ | exact List.nil_sublist _ | apply List.Sublist.cons_cons | apply List.Sublist.cons | apply List.Sublist.append_left | refine List.Sublist.trans ?_ (List.sublist_append_right _ _)))))
      · have hz1 : (((n % 1000000000000 : Nat) : Int) == 0) = false := by simp; omega
        by_cases hd2 : n % 1000000000 = 0
        · have hz2 : (((n % 1000000000 : Nat) : Int) == 0) = true := by rw [hd2]; rfl
          have hpk : pickU n = (1000000000, [109, 115]) := by unfold pickU; rw [if_neg hn0, if_neg hd1, if_pos hd2]
          rw [hpk] at hK
          have hdm : n / 1000000000 < 1000000000000000000 := by omega
          have hdl1 := hdl (n / 1000000000) (by omega)
          have hdl3 : sg.length + (decN (n / 1000000000)).length ≤ 1000 := by omega
          have hadd : (sg ++ decN (n / 1000000000)).length + 2 ≤ 4294967296 := by rw [List.length_append]; omega
          repeat' (first
            | dsimp only [putD, DV.cells, DH.new_next, DH.set_next, List.length_cons, List.length_nil, Nat.reduceAdd, List.set_cons_zero, List.set_cons_succ, getD_zero, getD_succ, fieldAt_zero, fieldAt_succ, thenD, blockD, retR]
            | refine dwp_drawt _ rfl (fun H' => Bx A H' [(b1, .rows false 2 [[.str [109, 115], .int .i64 1000000000]])] fs) (hB.sub (by (repeat (first | exact List.Sublist.refl _ | exact List.nil_sublist _ | apply List.Sublist.cons_cons | apply List.Sublist.cons | apply List.Sublist.append_left | refine List.Sublist.trans ?_ (List.sublist_append_right _ _))))) ?_
            | apply drawt_nil
            | (apply drawt_read; (· (first | exact wanted_plain rfl | (apply wanted_on; (· exact rfl); (· exact rfl); (· (first | with_reducible assumption | with_reducible rfl | decide))))); (· exact rfl); (· exact rfl); (· intro H' h; have h : Bx _ H' _ _ := h; exact opD_load rfl rfl (h.get At.here) rfl rfl); (· intro H' h; have h : Bx _ H' _ _ := (by first | exact h | exact h.1); exact opD_load rfl rfl (h.get At.here) rfl rfl))
            | (apply drawt_pure; (· (first | exact wanted_plain rfl | (apply wanted_on; (· exact rfl); (· exact rfl); (· (first | with_reducible assumption | with_reducible rfl | decide))))); (· exact rfl); (· exact rfl); (· exact opD_quo rfl rfl rfl (by decide) hq2))
            | (apply drawt_pure; (· (first | exact wanted_plain rfl | (apply wanted_on; (· exact rfl); (· exact rfl); (· (first | with_reducible assumption | with_reducible rfl | decide))))); (· exact rfl); (· exact rfl); (· exact opD_strAdd rfl rfl rfl hadd))
            | (apply drawt_pure; (· (first | exact wanted_plain rfl | (apply wanted_on; (· exact rfl); (· exact rfl); (· (first | with_reducible assumption | with_reducible rfl | decide))))); (· exact rfl); (· exact rfl); (· exact rfl))
            | (apply drawt_move; (· (first | exact wanted_plain rfl | (apply wanted_on; (· exact rfl); (· exact rfl); (· (first | with_reducible assumption | with_reducible rfl | decide))))); (· exact rfl); (· exact id))
            | (apply drawt_last; (· (first | exact wanted_plain rfl | (apply wanted_on; (· exact rfl); (· exact rfl); (· (first | with_reducible assumption | with_reducible rfl | decide))))); (· exact rfl); (· exact rfl); (· decide +kernel); (· exact opD_str_own rfl rfl rfl rfl rfl q3 (by assumption) (by (repeat (first | with_reducible exact Ctx.here | with_reducible apply Ctx.cons | with_reducible apply Ctx.app)))))
            | refine dwp_round ?_
            | apply dwp_seq
            | apply dwp_region
            | apply ops_nil
            | (apply ops_plain; (· exact rfl))
            | (apply ops_on; (· exact rfl); (· exact rfl); (· (first | with_reducible assumption | with_reducible rfl | decide)))
            | (apply ops_off1; (· exact rfl); (· exact rfl); (· (first | with_reducible assumption | with_reducible rfl | decide)))
            | (apply ops_off0; (· exact rfl); (· exact rfl); (· (first | with_reducible assumption | with_reducible rfl | decide)))
            | (apply ops_offn; (· exact rfl); (· exact rfl))
            | (apply op_call; (· exact rfl); (· exact rfl); (· exact rfl); (refine (CallWp.up up13 (size70x ft _)).mono ?_; rintro r H' ⟨rfl, rfl⟩; rw [hn]))
            | (apply op_call; (· exact rfl); (· exact rfl); (· exact rfl); refine call_table (g := gUnits) rfl rfl ?_)
            | (apply op_call; (· exact rfl); (· exact rfl); (· exact rfl); (apply digits72 (n / 1000000000) (n / 1000000000) (Nat.le_refl _) hdm sg s3 hdl3 o3; (· assumption); (· (repeat (first | with_reducible exact Ctx.here | with_reducible apply Ctx.cons | with_reducible apply Ctx.app))); intro s' x' H1 q3 hB; refine ⟨(hB.sub (by (repeat (first | exact List.Sublist.refl _ | exact List.nil_sublist _ | apply List.Sublist.cons_cons | apply List.Sublist.cons | apply List.Sublist.append_left | refine List.Sublist.trans ?_ (List.sublist_append_right _ _))))), ?_⟩))
            | (apply op_pick_t; (· exact rfl); (· exact rfl); (· (first | with_reducible assumption | with_reducible rfl | decide)); (· exact rfl))
            | (apply op_pick_f; (· exact rfl); (· exact rfl); (· (first | with_reducible assumption | with_reducible rfl | decide)); (· exact rfl))
            | (apply op_at; (· exact opD_rem rfl rfl rfl (by decide) hr1))
            | (apply op_at; (· exact opD_rem rfl rfl rfl (by decide) hr2))
            | (apply bx_load0; (· exact rfl); (· exact rfl); (· assumption); (· (repeat (first | with_reducible exact At.here | with_reducible apply At.there | with_reducible apply at_app))); (· (first | exact part107 _ _ | exact rfl)))
            | (apply bx_store0; (· exact rfl); (· exact rfl); (· exact rfl); (· assumption); (· (first | (dsimp only [putD, DV.cells, DH.new_next, DH.set_next, List.length_cons, List.length_nil, Nat.reduceAdd, List.set_cons_zero, List.set_cons_succ, getD_zero, getD_succ, fieldAt_zero, fieldAt_succ, thenD, blockD, retR, Sv.cells]; done) | (dsimp only [putD, DV.cells, DH.new_next, DH.set_next, List.length_cons, List.length_nil, Nat.reduceAdd, List.set_cons_zero, List.set_cons_succ, getD_zero, getD_succ, fieldAt_zero, fieldAt_succ, thenD, blockD, retR, Sv.cells]; exact rfl) | exact rfl)); (· (repeat (first | with_reducible exact Upd.here | with_reducible apply Upd.there | with_reducible apply upd_app))); (· exact rfl); (· exact rfl); (· exact rfl); (· exact rfl); intro H1 hB)
            | (apply bx_alloc; (· exact rfl); (· exact zero107); (· (first | (dsimp only [putD, DV.cells, DH.new_next, DH.set_next, List.length_cons, List.length_nil, Nat.reduceAdd, List.set_cons_zero, List.set_cons_succ, getD_zero, getD_succ, fieldAt_zero, fieldAt_succ, thenD, blockD, retR, Sv.cells]; done) | (dsimp only [putD, DV.cells, DH.new_next, DH.set_next, List.length_cons, List.length_nil, Nat.reduceAdd, List.set_cons_zero, List.set_cons_succ, getD_zero, getD_succ, fieldAt_zero, fieldAt_succ, thenD, blockD, retR, Sv.cells]; exact rfl) | exact rfl)); (· exact rfl); (· exact rfl); (· assumption); intro b1 H1 hB)
            | (apply op_at; (· exact rfl))
            | (apply dwp_cond_t; (· exact rfl); (· (first | with_reducible assumption | with_reducible rfl | decide)))
            | (apply dwp_cond_f; (· exact rfl); (· (first | with_reducible assumption | with_reducible rfl | decide)))
            | apply dwp_block
            | apply dwp_skip
            | apply dwp_ret
            | (refine ⟨_, rfl, ?_⟩)
            | fail)
          exact hK _ (hB.sub (by (repeat (first | exact List.Sublist.refl _ | exact List.nil_sublist _ | apply List.Sublist.cons_cons | apply List.Sublist.cons | apply List.Sublist.append_left | refine List.Sublist.trans ?_ (List.sublist_append_right _ _)))))
        · have hz2 : (((n % 1000000000 : Nat) : Int) == 0) = false := by simp; omega
          by_cases hd3 : n % 1000000 = 0
          · have hz3 : (((n % 1000000 : Nat) : Int) == 0) = true := by rw [hd3]; rfl
            have hpk : pickU n = (1000000, [117, 115]) := by unfold pickU; rw [if_neg hn0, if_neg hd1, if_neg hd2, if_pos hd3]
            rw [hpk] at hK
            have hdm : n / 1000000 < 1000000000000000000 := by omega
            have hdl1 := hdl (n / 1000000) (by omega)
            have hdl3 : sg.length + (decN (n / 1000000)).length ≤ 1000 := by omega
            have hadd : (sg ++ decN (n / 1000000)).length + 2 ≤ 4294967296 := by rw [List.length_append]; omega
            repeat' (first
              | dsimp only [putD, DV.cells, DH.new_next, DH.set_next, List.length_cons, List.length_nil, Nat.reduceAdd, List.set_cons_zero, List.set_cons_succ, getD_zero, getD_succ, fieldAt_zero, fieldAt_succ, thenD, blockD, retR]
              | refine dwp_drawt _ rfl (fun H' => Bx A H' [(b1, .rows false 2 [[.str [117, 115], .int .i64 1000000]])] fs) (hB.sub (by (repeat (first | exact List.Sublist.refl _ | exact List.nil_sublist _ | apply List.Sublist.cons_cons | apply List.Sublist.cons | apply List.Sublist.append_left | refine List.Sublist.trans ?_ (List.sublist_append_right _ _))))) ?_
              | apply drawt_nil
              | (apply drawt_read; (· (first | exact wanted_plain rfl | (apply wanted_on; (· exact rfl); (· exact rfl); (· (first | with_reducible assumption | with_reducible rfl | decide))))); (· exact rfl); (· exact rfl); (· intro H' h; have h : Bx _ H' _ _ := h; exact opD_load rfl rfl (h.get At.here) rfl rfl); (· intro H' h; have h : Bx _ H' _ _ := (by first | exact h | exact h.1); exact opD_load rfl rfl (h.get At.here) rfl rfl))
              | (apply drawt_pure; (· (first | exact wanted_plain rfl | (apply wanted_on; (· exact rfl); (· exact rfl); (· (first | with_reducible assumption | with_reducible rfl | decide))))); (· exact rfl); (· exact rfl); (· exact opD_quo rfl rfl rfl (by decide) hq3))
              | (apply drawt_pure; (· (first | exact wanted_plain rfl | (apply wanted_on; (· exact rfl); (· exact rfl); (· (first | with_reducible assumption | with_reducible rfl | decide))))); (· exact rfl); (· exact rfl); (· exact opD_strAdd rfl rfl rfl hadd))
              | (apply drawt_pure; (· (first | exact wanted_plain rfl | (apply wanted_on; (· exact rfl); (· exact rfl); (· (first | with_reducible assumption | with_reducible rfl | decide))))); (· exact rfl); (· exact rfl); (· exact rfl))
              | (apply drawt_move; (· (first | exact wanted_plain rfl | (apply wanted_on; (· exact rfl); (· exact rfl); (· (first | with_reducible assumption | with_reducible rfl | decide))))); (· exact rfl); (· exact id))
              | (apply drawt_last; (· (first | exact wanted_plain rfl | (apply wanted_on; (· exact rfl); (· exact rfl); (· (first | with_reducible assumption | with_reducible rfl | decide))))); (· exact rfl); (· exact rfl); (· decide +kernel); (· exact opD_str_own rfl rfl rfl rfl rfl q3 (by assumption) (by (repeat (first | with_reducible exact Ctx.here | with_reducible apply Ctx.cons | with_reducible apply Ctx.app)))))
              | refine dwp_round ?_
              | apply dwp_seq
              | apply dwp_region
              | apply ops_nil
              | (apply ops_plain; (· exact rfl))
              | (apply ops_on; (· exact rfl); (· exact rfl); (· (first | with_reducible assumption | with_reducible rfl | decide)))
              | (apply ops_off1; (· exact rfl); (· exact rfl); (· (first | with_reducible assumption | with_reducible rfl | decide)))
              | (apply ops_off0; (· exact rfl); (· exact rfl); (· (first | with_reducible assumption | with_reducible rfl | decide)))
              | (apply ops_offn; (· exact rfl); (· exact rfl))
              | (apply op_call; (· exact rfl); (· exact rfl); (· exact rfl); (refine (CallWp.up up13 (size70x ft _)).mono ?_; rintro r H' ⟨rfl, rfl⟩; rw [hn]))
              | (apply op_call; (· exact rfl); (· exact rfl); (· exact rfl); refine call_table (g := gUnits) rfl rfl ?_)
              | (apply op_call; (· exact rfl); (· exact rfl); (· exact rfl); (apply digits72 (n / 1000000) (n / 1000000) (Nat.le_refl _) hdm sg s3 hdl3 o3; (· assumption); (· (repeat (first | with_reducible exact Ctx.here | with_reducible apply Ctx.cons | with_reducible apply Ctx.app))); intro s' x' H1 q3 hB; refine ⟨(hB.sub (by (repeat (first | exact List.Sublist.refl _ | exact List.nil_sublist _ | apply List.Sublist.cons_cons | apply List.Sublist.cons | apply List.Sublist.append_left | refine List.Sublist.trans ?_ (List.sublist_append_right _ _))))), ?_⟩))
              | (apply op_pick_t; (· exact rfl); (· exact rfl); (· (first | with_reducible assumption | with_reducible rfl | decide)); (· exact rfl))
              | (apply op_pick_f; (· exact rfl); (· exact rfl); (· (first | with_reducible assumption | with_reducible rfl | decide)); (· exact rfl))
              | (apply op_at; (· exact opD_rem rfl rfl rfl (by decide) hr1))
              | (apply op_at; (· exact opD_rem rfl rfl rfl (by decide) hr2))
              | (apply op_at; (· exact opD_rem rfl rfl rfl (by decide) hr3))
              | (apply bx_load0; (· exact rfl); (· exact rfl); (· assumption); (· (repeat (first | with_reducible exact At.here | with_reducible apply At.there | with_reducible apply at_app))); (· (first | exact part107 _ _ | exact rfl)))
              | (apply bx_store0; (· exact rfl); (· exact rfl); (· exact rfl); (· assumption); (· (first | (dsimp only [putD, DV.cells, DH.new_next, DH.set_next, List.length_cons, List.length_nil, Nat.reduceAdd, List.set_cons_zero, List.set_cons_succ, getD_zero, getD_succ, fieldAt_zero, fieldAt_succ, thenD, blockD, retR, Sv.cells]; done) | (dsimp only [putD, DV.cells, DH.new_next, DH.set_next, List.length_cons, List.length_nil, Nat.reduceAdd, List.set_cons_zero, List.set_cons_succ, getD_zero, getD_succ, fieldAt_zero, fieldAt_succ, thenD, blockD, retR, Sv.cells]; exact rfl) | exact rfl)); (· (repeat (first | with_reducible exact Upd.here | with_reducible apply Upd.there | with_reducible apply upd_app))); (· exact rfl); (· exact rfl); (· exact rfl); (· exact rfl); intro H1 hB)
              | (apply bx_alloc; (· exact rfl); (· exact zero107); (· (first | (dsimp only [putD, DV.cells, DH.new_next, DH.set_next, List.length_cons, List.length_nil, Nat.reduceAdd, List.set_cons_zero, List.set_cons_succ, getD_zero, getD_succ, fieldAt_zero, fieldAt_succ, thenD, blockD, retR, Sv.cells]; done) | (dsimp only [putD, DV.cells, DH.new_next, DH.set_next, List.length_cons, List.length_nil, Nat.reduceAdd, List.set_cons_zero, List.set_cons_succ, getD_zero, getD_succ, fieldAt_zero, fieldAt_succ, thenD, blockD, retR, Sv.cells]; exact rfl) | exact rfl)); (· exact rfl); (· exact rfl); (· assumption); intro b1 H1 hB)
              | (apply op_at; (· exact rfl))
              | (apply dwp_cond_t; (· exact rfl); (· (first | with_reducible assumption | with_reducible rfl | decide)))
              | (apply dwp_cond_f; (· exact rfl); (· (first | with_reducible assumption | with_reducible rfl | decide)))
              | apply dwp_block
              | apply dwp_skip
              | apply dwp_ret
              | (refine ⟨_, rfl, ?_⟩)
              | fail)
            exact hK _ (hB.sub (by (repeat (first | exact List.Sublist.refl _ | exact List.nil_sublist _ | apply List.Sublist.cons_cons | apply List.Sublist.cons | apply List.Sublist.append_left | refine List.Sublist.trans ?_ (List.sublist_append_right _ _)))))
          · have hz3 : (((n % 1000000 : Nat) : Int) == 0) = false := by simp; omega
            by_cases hd4 : n % 1000 = 0
            · have hz4 : (((n % 1000 : Nat) : Int) == 0) = true := by rw [hd4]; rfl
              have hpk : pickU n = (1000, [110, 115]) := by unfold pickU; rw [if_neg hn0, if_neg hd1, if_neg hd2, if_neg hd3, if_pos hd4]
              rw [hpk] at hK
              have hdm : n / 1000 < 1000000000000000000 := by omega
              have hdl1 := hdl (n / 1000) (by omega)
              have hdl3 : sg.length + (decN (n / 1000)).length ≤ 1000 := by omega
              have hadd : (sg ++ decN (n / 1000)).length + 2 ≤ 4294967296 := by rw [List.length_append]; omega
              repeat' (first
                | dsimp only [putD, DV.cells, DH.new_next, DH.set_next, List.length_cons, List.length_nil, Nat.reduceAdd, List.set_cons_zero, List.set_cons_succ, getD_zero, getD_succ, fieldAt_zero, fieldAt_succ, thenD, blockD, retR]
                | refine dwp_drawt _ rfl (fun H' => Bx A H' [(b1, .rows false 2 [[.str [110, 115], .int .i64 1000]])] fs) (hB.sub (by (repeat (first | exact List.Sublist.refl _ | exact List.nil_sublist _ | apply List.Sublist.cons_cons | apply List.Sublist.cons | apply List.Sublist.append_left | refine List.Sublist.trans ?_ (List.sublist_append_right _ _))))) ?_
                | apply drawt_nil
                | (apply drawt_read; (· (first | exact wanted_plain rfl | (apply wanted_on; (· exact rfl); (· exact rfl); (· (first | with_reducible assumption | with_reducible rfl | decide))))); (· exact rfl); (· exact rfl); (· intro H' h; have h : Bx _ H' _ _ := h; exact opD_load rfl rfl (h.get At.here) rfl rfl); (· intro H' h; have h : Bx _ H' _ _ := (by first | exact h | exact h.1); exact opD_load rfl rfl (h.get At.here) rfl rfl))
                | (apply drawt_pure; (· (first | exact wanted_plain rfl | (apply wanted_on; (· exact rfl); (· exact rfl); (· (first | with_reducible assumption | with_reducible rfl | decide))))); (· exact rfl); (· exact rfl); (· exact opD_quo rfl rfl rfl (by decide) hq4))
                | (apply drawt_pure; (· (first | exact wanted_plain rfl | (apply wanted_on; (· exact rfl); (· exact rfl); (· (first | with_reducible assumption | with_reducible rfl | decide))))); (· exact rfl); (· exact rfl); (· exact opD_strAdd rfl rfl rfl hadd))
                | (apply drawt_pure; (· (first | exact wanted_plain rfl | (apply wanted_on; (· exact rfl); (· exact rfl); (· (first | with_reducible assumption | with_reducible rfl | decide))))); (· exact rfl); (· exact rfl); (· exact rfl))
                | (apply drawt_move; (· (first | exact wanted_plain rfl | (apply wanted_on; (· exact rfl); (· exact rfl); (· (first | with_reducible assumption | with_reducible rfl | decide))))); (· exact rfl); (· exact id))
                | (apply drawt_last; (· (first | exact wanted_plain rfl | (apply wanted_on; (· exact rfl); (· exact rfl); (· (first | with_reducible assumption | with_reducible rfl | decide))))); (· exact rfl); (· exact rfl); (· decide +kernel); (· exact opD_str_own rfl rfl rfl rfl rfl q3 (by assumption) (by (repeat (first | with_reducible exact Ctx.here | with_reducible apply Ctx.cons | with_reducible apply Ctx.app)))))
                | refine dwp_round ?_
                | apply dwp_seq
                | apply dwp_region
                | apply ops_nil
                | (apply ops_plain; (· exact rfl))
                | (apply ops_on; (· exact rfl); (· exact rfl); (· (first | with_reducible assumption | with_reducible rfl | decide)))
                | (apply ops_off1; (· exact rfl); (· exact rfl); (· (first | with_reducible assumption | with_reducible rfl | decide)))
                | (apply ops_off0; (· exact rfl); (· exact rfl); (· (first | with_reducible assumption | with_reducible rfl | decide)))
                | (apply ops_offn; (· exact rfl); (· exact rfl))
                | (apply op_call; (· exact rfl); (· exact rfl); (· exact rfl); (refine (CallWp.up up13 (size70x ft _)).mono ?_; rintro r H' ⟨rfl, rfl⟩; rw [hn]))
                | (apply op_call; (· exact rfl); (· exact rfl); (· exact rfl); refine call_table (g := gUnits) rfl rfl ?_)
                | (apply op_call; (· exact rfl); (· exact rfl); (· exact rfl); (apply digits72 (n / 1000) (n / 1000) (Nat.le_refl _) hdm sg s3 hdl3 o3; (· assumption); (· (repeat (first | with_reducible exact Ctx.here | with_reducible apply Ctx.cons | with_reducible apply Ctx.app))); intro s' x' H1 q3 hB; refine ⟨(hB.sub (by (repeat (first | exact List.Sublist.refl _ | exact List.nil_sublist _ | apply List.Sublist.cons_cons | apply List.Sublist.cons | apply List.Sublist.append_left | refine List.Sublist.trans ?_ (List.sublist_append_right _ _))))), ?_⟩))
                | (apply op_pick_t; (· exact rfl); (· exact rfl); (· (first | with_reducible assumption | with_reducible rfl | decide)); (· exact rfl))
                | (apply op_pick_f; (· exact rfl); (· exact rfl); (· (first | with_reducible assumption | with_reducible rfl | decide)); (· exact rfl))
                | (apply op_at; (· exact opD_rem rfl rfl rfl (by decide) hr1))
                | (apply op_at; (· exact opD_rem rfl rfl rfl (by decide) hr2))
                | (apply op_at; (· exact opD_rem rfl rfl rfl (by decide) hr3))
                | (apply op_at; (· exact opD_rem rfl rfl rfl (by decide) hr4))
                | (apply bx_load0; (· exact rfl); (· exact rfl); (· assumption); (· (repeat (first | with_reducible exact At.here | with_reducible apply At.there | with_reducible apply at_app))); (· (first | exact part107 _ _ | exact rfl)))
                | (apply bx_store0; (· exact rfl); (· exact rfl); (· exact rfl); (· assumption); (· (first | (dsimp only [putD, DV.cells, DH.new_next, DH.set_next, List.length_cons, List.length_nil, Nat.reduceAdd, List.set_cons_zero, List.set_cons_succ, getD_zero, getD_succ, fieldAt_zero, fieldAt_succ, thenD, blockD, retR, Sv.cells]; done) | (dsimp only [putD, DV.cells, DH.new_next, DH.set_next, List.length_cons, List.length_nil, Nat.reduceAdd, List.set_cons_zero, List.set_cons_succ, getD_zero, getD_succ, fieldAt_zero, fieldAt_succ, thenD, blockD, retR, Sv.cells]; exact rfl) | exact rfl)); (· (repeat (first | with_reducible exact Upd.here | with_reducible apply Upd.there | with_reducible apply upd_app))); (· exact rfl); (· exact rfl); (· exact rfl); (· exact rfl); intro H1 hB)
                | (apply bx_alloc; (· exact rfl); (· exact zero107); (· (first | (dsimp only [putD, DV.cells, DH.new_next, DH.set_next, List.length_cons, List.length_nil, Nat.reduceAdd, List.set_cons_zero, List.set_cons_succ, getD_zero, getD_succ, fieldAt_zero, fieldAt_succ, thenD, blockD, retR, Sv.cells]; done) | (dsimp only [putD, DV.cells, DH.new_next, DH.set_next, List.length_cons, List.length_nil, Nat.reduceAdd, List.set_cons_zero, List.set_cons_succ, getD_zero, getD_succ, fieldAt_zero, fieldAt_succ, thenD, blockD, retR, Sv.cells]; exact rfl) | exact rfl)); (· exact rfl); (· exact rfl); (· assumption); intro b1 H1 hB)
                | (apply op_at; (· exact rfl))
                | (apply dwp_cond_t; (· exact rfl); (· (first | with_reducible assumption | with_reducible rfl | decide)))
                | (apply dwp_cond_f; (· exact rfl); (· (first | with_reducible assumption | with_reducible rfl | decide)))
                | apply dwp_block
                | apply dwp_skip
                | apply dwp_ret
                | (refine ⟨_, rfl, ?_⟩)
                | fail)
              exact hK _ (hB.sub (by (repeat (first | exact List.Sublist.refl _ | exact List.nil_sublist _ | apply List.Sublist.cons_cons | apply List.Sublist.cons | apply List.Sublist.append_left | refine List.Sublist.trans ?_ (List.sublist_append_right _ _)))))
            · have hz4 : (((n % 1000 : Nat) : Int) == 0) = false := by simp; omega
              have hz5 : (((n % 1 : Nat) : Int) == 0) = true := by rw [Nat.mod_one]; rfl
              have hpk : pickU n = (1, [112, 115]) := by unfold pickU; rw [if_neg hn0, if_neg hd1, if_neg hd2, if_neg hd3, if_neg hd4]
              rw [hpk] at hK
              have hdm : n / 1 < 1000000000000000000 := by omega
              have hdl1 := hdl (n / 1) (by omega)
              have hdl3 : sg.length + (decN (n / 1)).length ≤ 1000 := by omega
              have hadd : (sg ++ decN (n / 1)).length + 2 ≤ 4294967296 := by rw [List.length_append]; omega
              repeat' (first
                | dsimp only [putD, DV.cells, DH.new_next, DH.set_next, List.length_cons, List.length_nil, Nat.reduceAdd, List.set_cons_zero, List.set_cons_succ, getD_zero, getD_succ, fieldAt_zero, fieldAt_succ, thenD, blockD, retR]
                | refine dwp_drawt _ rfl (fun H' => Bx A H' [(b1, .rows false 2 [[.str [112, 115], .int .i64 1]])] fs) (hB.sub (by (repeat (first | exact List.Sublist.refl _ | exact List.nil_sublist _ | apply List.Sublist.cons_cons | apply List.Sublist.cons | apply List.Sublist.append_left | refine List.Sublist.trans ?_ (List.sublist_append_right _ _))))) ?_
                | apply drawt_nil
                | (apply drawt_read; (· (first | exact wanted_plain rfl | (apply wanted_on; (· exact rfl); (· exact rfl); (· (first | with_reducible assumption | with_reducible rfl | decide))))); (· exact rfl); (· exact rfl); (· intro H' h; have h : Bx _ H' _ _ := h; exact opD_load rfl rfl (h.get At.here) rfl rfl); (· intro H' h; have h : Bx _ H' _ _ := (by first | exact h | exact h.1); exact opD_load rfl rfl (h.get At.here) rfl rfl))
                | (apply drawt_pure; (· (first | exact wanted_plain rfl | (apply wanted_on; (· exact rfl); (· exact rfl); (· (first | with_reducible assumption | with_reducible rfl | decide))))); (· exact rfl); (· exact rfl); (· exact opD_quo rfl rfl rfl (by decide) hq5))
                | (apply drawt_pure; (· (first | exact wanted_plain rfl | (apply wanted_on; (· exact rfl); (· exact rfl); (· (first | with_reducible assumption | with_reducible rfl | decide))))); (· exact rfl); (· exact rfl); (· exact opD_strAdd rfl rfl rfl hadd))
                | (apply drawt_pure; (· (first | exact wanted_plain rfl | (apply wanted_on; (· exact rfl); (· exact rfl); (· (first | with_reducible assumption | with_reducible rfl | decide))))); (· exact rfl); (· exact rfl); (· exact rfl))
                | (apply drawt_move; (· (first | exact wanted_plain rfl | (apply wanted_on; (· exact rfl); (· exact rfl); (· (first | with_reducible assumption | with_reducible rfl | decide))))); (· exact rfl); (· exact id))
                | (apply drawt_last; (· (first | exact wanted_plain rfl | (apply wanted_on; (· exact rfl); (· exact rfl); (· (first | with_reducible assumption | with_reducible rfl | decide))))); (· exact rfl); (· exact rfl); (· decide +kernel); (· exact opD_str_own rfl rfl rfl rfl rfl q3 (by assumption) (by (repeat (first | with_reducible exact Ctx.here | with_reducible apply Ctx.cons | with_reducible apply Ctx.app)))))
                | refine dwp_round ?_
                | apply dwp_seq
                | apply dwp_region
                | apply ops_nil
                | (apply ops_plain; (· exact rfl))
                | (apply ops_on; (· exact rfl); (· exact rfl); (· (first | with_reducible assumption | with_reducible rfl | decide)))
                | (apply ops_off1; (· exact rfl); (· exact rfl); (· (first | with_reducible assumption | with_reducible rfl | decide)))
                | (apply ops_off0; (· exact rfl); (· exact rfl); (· (first | with_reducible assumption | with_reducible rfl | decide)))
                | (apply ops_offn; (· exact rfl); (· exact rfl))
                | (apply op_call; (· exact rfl); (· exact rfl); (· exact rfl); (refine (CallWp.up up13 (size70x ft _)).mono ?_; rintro r H' ⟨rfl, rfl⟩; rw [hn]))
                | (apply op_call; (· exact rfl); (· exact rfl); (· exact rfl); refine call_table (g := gUnits) rfl rfl ?_)
                | (apply op_call; (· exact rfl); (· exact rfl); (· exact rfl); (apply digits72 (n / 1) (n / 1) (Nat.le_refl _) hdm sg s3 hdl3 o3; (· assumption); (· (repeat (first | with_reducible exact Ctx.here | with_reducible apply Ctx.cons | with_reducible apply Ctx.app))); intro s' x' H1 q3 hB; refine ⟨(hB.sub (by (repeat (first | exact List.Sublist.refl _ | exact List.nil_sublist _ | apply List.Sublist.cons_cons | apply List.Sublist.cons | apply List.Sublist.append_left | refine List.Sublist.trans ?_ (List.sublist_append_right _ _))))), ?_⟩))
                | (apply op_pick_t; (· exact rfl); (· exact rfl); (· (first | with_reducible assumption | with_reducible rfl | decide)); (· exact rfl))
                | (apply op_pick_f; (· exact rfl); (· exact rfl); (· (first | with_reducible assumption | with_reducible rfl | decide)); (· exact rfl))
                | (apply op_at; (· exact opD_rem rfl rfl rfl (by decide) hr1))
                | (apply op_at; (· exact opD_rem rfl rfl rfl (by decide) hr2))
                | (apply op_at; (· exact opD_rem rfl rfl rfl (by decide) hr3))
                | (apply op_at; (· exact opD_rem rfl rfl rfl (by decide) hr4))
                | (apply op_at; (· exact opD_rem rfl rfl rfl (by decide) hr5))
                | (apply bx_load0; (· exact rfl); (· exact rfl); (· assumption); (· (repeat (first | with_reducible exact At.here | with_reducible apply At.there | with_reducible apply at_app))); (· (first | exact part107 _ _ | exact rfl)))
                | (apply bx_store0; (· exact rfl); (· exact rfl); (· exact rfl); (· assumption); (· (first | (dsimp only [putD, DV.cells, DH.new_next, DH.set_next, List.length_cons, List.length_nil, Nat.reduceAdd, List.set_cons_zero, List.set_cons_succ, getD_zero, getD_succ, fieldAt_zero, fieldAt_succ, thenD, blockD, retR, Sv.cells]; done) | (dsimp only [putD, DV.cells, DH.new_next, DH.set_next, List.length_cons, List.length_nil, Nat.reduceAdd, List.set_cons_zero, List.set_cons_succ, getD_zero, getD_succ, fieldAt_zero, fieldAt_succ, thenD, blockD, retR, Sv.cells]; exact rfl) | exact rfl)); (· (repeat (first | with_reducible exact Upd.here | with_reducible apply Upd.there | with_reducible apply upd_app))); (· exact rfl); (· exact rfl); (· exact rfl); (· exact rfl); intro H1 hB)
                | (apply bx_alloc; (· exact rfl); (· exact zero107); (· (first | (dsimp only [putD, DV.cells, DH.new_next, DH.set_next, List.length_cons, List.length_nil, Nat.reduceAdd, List.set_cons_zero, List.set_cons_succ, getD_zero, getD_succ, fieldAt_zero, fieldAt_succ, thenD, blockD, retR, Sv.cells]; done) | (dsimp only [putD, DV.cells, DH.new_next, DH.set_next, List.length_cons, List.length_nil, Nat.reduceAdd, List.set_cons_zero, List.set_cons_succ, getD_zero, getD_succ, fieldAt_zero, fieldAt_succ, thenD, blockD, retR, Sv.cells]; exact rfl) | exact rfl)); (· exact rfl); (· exact rfl); (· assumption); intro b1 H1 hB)
                | (apply op_at; (· exact rfl))
                | (apply dwp_cond_t; (· exact rfl); (· (first | with_reducible assumption | with_reducible rfl | decide)))
                | (apply dwp_cond_f; (· exact rfl); (· (first | with_reducible assumption | with_reducible rfl | decide)))
                | apply dwp_block
                | apply dwp_skip
                | apply dwp_ret
                | (refine ⟨_, rfl, ?_⟩)
                | fail)
              exact hK _ (hB.sub (by (repeat (first | exact List.Sublist.refl _ | exact List.nil_sublist _ | apply List.Sublist.cons_cons | apply List.Sublist.cons | apply List.Sublist.append_left | refine List.Sublist.trans ?_ (List.sublist_append_right _ _)))))
end
end Go.Det.C
