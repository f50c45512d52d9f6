/- The reference's Same. -/
import Derived.Test.YtlmjhpnmfmnmgaaDoorLexN9
namespace Go.Det.C
open Go Go.Det Go.Proofs
set_option maxRecDepth 4000
set_option maxHeartbeats 4000000
set_option linter.unusedVariables false
set_option linter.unusedSimpArgs false
theorem eqTok (x y : Tok) : eqD Tryd.prog 57 (.agg x.row) (.agg y.row) = some (decide (x = y)) := by
  have h : eqD Tryd.prog 57 (.agg x.row) (.agg y.row) = andO (x.k == y.k) (andO (x.s == y.s) (andO (x.n == y.n) (andO (x.t == y.t) (some true)))) := by kernel_rfl
  rw [h]
  simp only [andO_some]
  refine congrArg some ?_
  rw [Bool.eq_iff_iff]
  cases x; cases y
  simp
theorem partTok (x : Tok) : partD Tryd.prog 57 x.row 0 = some (.agg x.row) := rfl
theorem same25 {H : DH} {p p' : Option (Nat × Nat × Nat)} {c c' : Nat} {ex ex' : Bool} {l m : List Tok} (hl : Sl H 4 (l.map Tok.row) p) (hm : Sl H 4 (m.map Tok.row) p') (hlen : l.length ≤ 1000000) :
    CallWp Tryd.prog X3 25 [.sl p l.length c ex, .sl p' m.length c' ex'] H (fun r H' => r = .bool (decide (l = m)) ∧ H' = H) := by
  by_cases hne : ((l.length : Int) != (m.length : Int)) = true
  · skip
    refine enter rfl Tryd.func25 rfl Tryd.ntmps25 rfl ?_
    dsimp only [List.cons_append, List.nil_append, List.length_cons, List.length_nil, List.replicate_succ, List.replicate_zero, Nat.reduceAdd, Nat.reduceSub]
    repeat' (first
      | dsimp only [putD, DV.cells, DH.new_next, DH.set_next, List.length_cons, List.length_nil, Nat.reduceAdd, List.set_cons_zero, List.set_cons_succ, getD_zero, getD_succ, fieldAt_zero, fieldAt_succ, thenD, blockD, retR]
      | apply dwp_seq
      | apply dwp_region
      | apply ops_nil
      | (apply ops_plain; (· exact rfl))
      | (apply op_at; (· exact rfl))
      | (apply dwp_cond_t; (· exact rfl); (· (first | with_reducible assumption | with_reducible rfl | decide)))
      | apply dwp_ret
      | (refine ⟨_, rfl, ?_⟩)
      | fail)
    refine ⟨?_, rfl⟩
    have : ¬ l = m := fun e => by subst e; simp at hne
    simp [this]
  · have hne' : ((l.length : Int) != (m.length : Int)) = false := by simpa using hne
    have hlm : l.length = m.length := by simp at hne'; omega
    refine enter rfl Tryd.func25 rfl Tryd.ntmps25 rfl ?_
    dsimp only [List.cons_append, List.nil_append, List.length_cons, List.length_nil, List.replicate_succ, List.replicate_zero, Nat.reduceAdd, Nat.reduceSub]
    repeat' (first
      | dsimp only [putD, DV.cells, DH.new_next, DH.set_next, List.length_cons, List.length_nil, Nat.reduceAdd, List.set_cons_zero, List.set_cons_succ, getD_zero, getD_succ, fieldAt_zero, fieldAt_succ, thenD, blockD, retR]
      | apply dwp_seq
      | apply dwp_region
      | apply ops_nil
      | (apply ops_plain; (· exact rfl))
      | (apply op_at; (· exact rfl))
      | (apply dwp_cond_f; (· exact rfl); (· (first | with_reducible assumption | with_reducible rfl | decide)))
      | apply dwp_block
      | apply dwp_skip
      | fail)
    refine dwp_loop (fun st => ∃ (k : Nat), ∃ J : Nat → DV, (k ≤ l.length ∧ ∀ i, i < k → l[i]? = m[i]?) ∧ st = ⟨[.sl p l.length c ex, .sl p' m.length c' ex', J 2, J 3, J 4, J 5, J 6, J 7, J 8, J 9, J 10, J 11, .int .i64 l.length, .int .i64 (k : Int), J 14, J 15, J 16, J 17, J 18, J 19, J 20, J 21, J 22, J 23, J 24, J 25], H⟩) (fun st => l.length - kOf st 13) (⟨0, junk_facts (⟨Nat.zero_le _, fun i h2 => absurd h2 (by omega)⟩) rfl rfl⟩) ?_
    rintro st ⟨k, J, ⟨hk, hbef⟩, rfl⟩
    by_cases hlt : k < l.length
    · obtain ⟨x, hx⟩ : ∃ x, l[k]? = some x := ⟨l[k], List.getElem?_eq_getElem hlt⟩
      obtain ⟨y, hy⟩ : ∃ y, m[k]? = some y := ⟨m[k]'(by omega), List.getElem?_eq_getElem _⟩
      obtain ⟨loc, i0, ro, rs, rfl, hloc, ho, hrx⟩ := hl.rd (k := k) (r := x.row) (by rw [List.getElem?_map, hx]; rfl)
      obtain ⟨loc', i0', ro', rs', rfl, hloc', ho', hry⟩ := hm.rd (k := k) (r := y.row) (by rw [List.getElem?_map, hy]; rfl)
      have hr1 : rs[i0 + ((k : Int)).toNat]? = some x.row := by rw [Int.toNat_natCast]; exact hrx
      have hr2 : rs'[i0' + ((k : Int)).toNat]? = some y.row := by rw [Int.toNat_natCast]; exact hry
      have hc : decide ((k : Int) < (l.length : Int)) = true := by simp [hlt]
      have hin1 : 0 ≤ (k : Int) ∧ (k : Int) < (l.length : Int) := by omega
      have hin2 : 0 ≤ (k : Int) ∧ (k : Int) < (m.length : Int) := by omega
      have hw : IntKind.i64.wrap ((k : Int) + 1) = ((k + 1 : Nat) : Int) := by rw [wrapI (by omega)]; rfl
      repeat' (first
        | dsimp only [putD, DV.cells, DH.new_next, DH.set_next, List.length_cons, List.length_nil, Nat.reduceAdd, List.set_cons_zero, List.set_cons_succ, getD_zero, getD_succ, fieldAt_zero, fieldAt_succ, thenD, blockD, retR]
        | (apply drawc_pure; (· (first | exact wanted_plain rfl | (apply wanted_on; (· exact rfl); (· exact rfl); (· (first | with_reducible assumption | with_reducible rfl | decide))))); (· exact rfl); (· exact rfl); (· exact opD_index rfl rfl rfl rfl rfl hin1))
        | (apply drawc_pure; (· (first | exact wanted_plain rfl | (apply wanted_on; (· exact rfl); (· exact rfl); (· (first | with_reducible assumption | with_reducible rfl | decide))))); (· exact rfl); (· exact rfl); (· exact opD_index rfl rfl rfl rfl rfl hin2))
        | (apply drawc_read_at; (· exact rfl); (· (first | exact wanted_plain rfl | (apply wanted_on; (· exact rfl); (· exact rfl); (· (first | with_reducible assumption | with_reducible rfl | decide))))); (· exact rfl); (· exact ho); (· with_reducible exact hr1); (· exact partTok x); (· decide +kernel))
        | (apply drawc_read_at; (· exact rfl); (· (first | exact wanted_plain rfl | (apply wanted_on; (· exact rfl); (· exact rfl); (· (first | with_reducible assumption | with_reducible rfl | decide))))); (· exact rfl); (· exact ho'); (· with_reducible exact hr2); (· exact partTok y); (· decide +kernel))
        | (apply drawc_pure; (· (first | exact wanted_plain rfl | (apply wanted_on; (· exact rfl); (· exact rfl); (· (first | with_reducible assumption | with_reducible rfl | decide))))); (· exact rfl); (· exact rfl); (· exact opD_neql rfl rfl rfl (eqTok x y)))
        | apply dwp_seq
        | apply dwp_region
        | apply ops_nil
        | (apply ops_plain; (· exact rfl))
        | (apply op_at; (· exact rfl))
        | refine dwp_drawc _ rfl ?_
        | apply drawc_nil
        | (apply drawc_pure; (· (first | exact wanted_plain rfl | (apply wanted_on; (· exact rfl); (· exact rfl); (· (first | with_reducible assumption | with_reducible rfl | decide))))); (· exact rfl); (· exact rfl); (· exact rfl))
        | (apply dwp_cond_t; (· exact rfl); (· (first | with_reducible assumption | with_reducible rfl | decide)))
        | (refine dwp_cond rfl ?_ ?_ <;> intro hb)
        | apply dwp_block
        | apply dwp_skip
        | apply dwp_ret
        | (refine ⟨_, rfl, ?_⟩)
        | fail)
      · refine ⟨?_, rfl⟩
        have hxy : ¬ x = y := by simpa using hb
        have : ¬ l = m := fun e => by subst e; rw [hx] at hy; cases hy; exact hxy rfl
        simp [this]
      · have hxy : x = y := by simpa using hb
        rw [hw]
        refine ⟨⟨k + 1, junk_facts (⟨by omega, fun i h2 => ?_⟩) rfl rfl⟩, ?_⟩
        · by_cases e : i = k
          · subst e; rw [hx, hy, hxy]
          · exact hbef i (by omega)
        · show l.length - ((k + 1 : Nat) : Int).toNat < l.length - (k : Int).toNat
          omega
    · have hc : decide ((k : Int) < (l.length : Int)) = false := by simp; omega
      repeat' (first
        | dsimp only [putD, DV.cells, DH.new_next, DH.set_next, List.length_cons, List.length_nil, Nat.reduceAdd, List.set_cons_zero, List.set_cons_succ, getD_zero, getD_succ, fieldAt_zero, fieldAt_succ, thenD, blockD, retR]
        | apply dwp_seq
        | apply dwp_region
        | apply ops_nil
        | (apply ops_plain; (· exact rfl))
        | (apply op_at; (· exact rfl))
        | (apply dwp_cond_f; (· exact rfl); (· (first | with_reducible assumption | with_reducible rfl | decide)))
        | apply dwp_ret
        | apply dwp_exit
        | (refine ⟨_, rfl, ?_⟩)
        | fail)
      refine ⟨?_, rfl⟩
      have : l = m := by
        apply List.ext_getElem?
        intro i
        by_cases hi : i < k
        · exact hbef i hi
        · rw [List.getElem?_eq_none (by omega), List.getElem?_eq_none (by omega)]
      simp [this]
end Go.Det.C

/- LexRemarks. -/
namespace Go.Det.C
open Go Go.Det Go.Proofs
set_option maxRecDepth 4000
set_option maxHeartbeats 4000000
set_option linter.unusedVariables false
set_option linter.unusedSimpArgs false
theorem opD_strAdd {P : Program} {cf : CallF} {o : Oper} {env : List DV} {H : DH} {t u : TypeId} {x y : Operand} {a b : List UInt8} (ho : o.op = .binOp .add t x y u) (hx : evalO env x = some (.str a)) (hy : evalO env y = some (.str b)) (hl : a.length + b.length ≤ 4294967296) : opD P cf o env H = some (.str (a ++ b), H) := by
  simp only [opD, ho, mover, reader, pureD, hx, hy, binD, strOpD, hl, if_true]
  rfl
section
variable {A H : DH} {bs : List (Nat × DObj)} {fs : List (DH → Prop)} {K : DV → DH → Prop}
theorem cut_err {s : List UInt8} (hs : s.length ≤ 65536) (he : (cutF s).e ≠ 0) (hB : Bx A H bs fs) (hk : ∀ H', Bx A H' bs fs → K (.tuple [.sl none 0 0 true, .sl none 0 0 true, .agg [.int .i64 (cutF s).w.1, .int .i64 (cutF s).w.2], .int .i64 (cutF s).e]) H') : CallWp Tryd.prog X3 24 [.str s] H K :=
  cut24 hs hB (fun _ => hk) (fun h => absurd h he)
theorem cut_ok {s : List UInt8} (hs : s.length ≤ 65536) (he : (cutF s).e = 0) (hB : Bx A H bs fs) (hk : ∀ (s1 s2 : Sv) x1 x2 H', Own1 4 ((cutF s).toks.map Tok.row) s1.dv x1 → Own1 2 ((cutF s).places.map placeRow) s2.dv x2 → Bx A H' (x1 ++ (x2 ++ bs)) fs → K (.tuple [s1.dv, s2.dv, .agg [.int .i64 0, .int .i64 0], .int .i64 0]) H') : CallWp Tryd.prog X3 24 [.str s] H K :=
  cut24 hs hB (fun h => absurd he h) (fun _ => hk)
end
/-- What the loop has seen is plain. -/
theorem plain_step {c : List UInt8} {pos cn w : Nat} (hne : c.drop pos ≠ []) (hd : decL (c.drop pos) = (cn, w)) (h1 : cn ≠ 10) (h2 : cn ≠ 65533) (h : Plain (c.drop (pos + w))) : Plain (c.drop pos) := by
  intro x hx
  rw [runes_cons hne, hd, List.drop_drop] at hx
  rcases List.mem_cons.mp hx with rfl | hx
  · refine ⟨?_, ?_⟩
    · unfold badL
      rw [hd]
      simp [h2]
    · simp only; omega
  · exact h x hx
theorem runes_len : ∀ (n : Nat) (l : List UInt8), l.length ≤ n → (runes l).length ≤ l.length := by
  intro n
  induction n with
  | zero => intro l hl; obtain rfl : l = [] := List.length_eq_zero_iff.mp (by omega); rw [runes_nil]; exact Nat.le_refl _
  | succ n ih =>
    intro l hl
    by_cases h : l = []
    · subst h; rw [runes_nil]; exact Nat.le_refl _
    · have hw := decL_width h
      have := ih (l.drop (decL l).2) (by rw [List.length_drop]; omega)
      rw [List.length_drop] at this
      rw [runes_cons h, List.length_cons]
      omega
theorem goR_len : ∀ (r : List (Int × Bool)) (c : Cu) (p : Int × Int), (goR r c p).toks.length ≤ c.toks.length + 3 * r.length + 1 := by
  intro r
  induction r with
  | nil => intro c p; have := (fin_len c).1; show c.fin.toks.length ≤ _; simp only [List.length_nil]; omega
  | cons x r ih =>
    intro c p
    have h := (step_len c p x).1
    rw [goR_cons, List.length_cons]
    split
    · have := ih (stepR c p x) (nextP p x.1); omega
    · omega
theorem plain_nil : Plain [] := by intro x hx; rw [runes_nil] at hx; cases hx
theorem remarks6 (s c : List UInt8) (pad : Int) (hpad : 0 ≤ pad ∧ pad ≤ 255) {A H : DH} (hB : Bx A H [] []) : CallWp Tryd.prog X3 6 [.str s, .str c, .int .u8 pad] H (fun r _ => r = .bool true) := by
  cases hfs : few s.length with
  | false =>
    refine enter rfl Tryd.func6 rfl Tryd.ntmps6 rfl ?_
    dsimp only [List.cons_append, List.nil_append, List.length_cons, List.length_nil, List.replicate_succ, List.replicate_zero, Nat.reduceAdd, Nat.reduceSub]
    repeat' (first
      | dsimp only [putD, DV.cells, DH.new_next, DH.set_next, List.length_cons, List.length_nil, Nat.reduceAdd, List.set_cons_zero, List.set_cons_succ, getD_zero, getD_succ, fieldAt_zero, fieldAt_succ, thenD, blockD, retR]
      | apply dwp_seq
      | apply dwp_region
      | apply ops_nil
      | (apply ops_plain; (· exact rfl))
      | (apply ops_off0; (· exact rfl); (· exact rfl); (· (first | with_reducible assumption | with_reducible rfl | decide)))
      | (apply op_call; (· exact rfl); (· exact rfl); (· exact rfl); refine call_table (g := gLive) rfl rfl ?_)
      | (apply op_call; (· exact rfl); (· exact rfl); (· exact rfl); (refine (few23 _ _).mono ?_; rintro r0 H' ⟨rfl, rfl⟩; (first | rw [hfs] | rw [hfc])))
      | (apply op_pick_t; (· exact rfl); (· exact rfl); (· (first | with_reducible assumption | with_reducible rfl | decide)); (· exact rfl))
      | (apply op_at; (· exact rfl))
      | (apply dwp_cond_t; (· exact rfl); (· (first | with_reducible assumption | with_reducible rfl | decide)))
      | apply dwp_ret
      | (refine ⟨_, rfl, ?_⟩)
      | fail)
  | true =>
    cases hfc : few c.length with
    | false =>
      refine enter rfl Tryd.func6 rfl Tryd.ntmps6 rfl ?_
      dsimp only [List.cons_append, List.nil_append, List.length_cons, List.length_nil, List.replicate_succ, List.replicate_zero, Nat.reduceAdd, Nat.reduceSub]
      repeat' (first
        | dsimp only [putD, DV.cells, DH.new_next, DH.set_next, List.length_cons, List.length_nil, Nat.reduceAdd, List.set_cons_zero, List.set_cons_succ, getD_zero, getD_succ, fieldAt_zero, fieldAt_succ, thenD, blockD, retR]
        | apply dwp_seq
        | apply dwp_region
        | apply ops_nil
        | (apply ops_plain; (· exact rfl))
        | (apply ops_on; (· exact rfl); (· exact rfl); (· (first | with_reducible assumption | with_reducible rfl | decide)))
        | (apply ops_off0; (· exact rfl); (· exact rfl); (· (first | with_reducible assumption | with_reducible rfl | decide)))
        | (apply op_call; (· exact rfl); (· exact rfl); (· exact rfl); refine call_table (g := gLive) rfl rfl ?_)
        | (apply op_call; (· exact rfl); (· exact rfl); (· exact rfl); (refine (few23 _ _).mono ?_; rintro r0 H' ⟨rfl, rfl⟩; (first | rw [hfs] | rw [hfc])))
        | (apply op_pick_t; (· exact rfl); (· exact rfl); (· (first | with_reducible assumption | with_reducible rfl | decide)); (· exact rfl))
        | (apply op_pick_f; (· exact rfl); (· exact rfl); (· (first | with_reducible assumption | with_reducible rfl | decide)); (· exact rfl))
        | (apply op_at; (· exact rfl))
        | (apply dwp_cond_t; (· exact rfl); (· (first | with_reducible assumption | with_reducible rfl | decide)))
        | apply dwp_ret
        | (refine ⟨_, rfl, ?_⟩)
        | fail)
    | true =>
      have hls : s.length < 131072 := by unfold few at hfs; simp at hfs; omega
      have hlc : c.length < 131072 := by unfold few at hfc; simp at hfc; omega
      have hsum : IntKind.i64.wrap ((s.length : Int) + (c.length : Int)) = ((s.length + c.length : Nat) : Int) := by
        rw [wrapI (by omega)]; omega
      cases hbig : decide (((s.length + c.length : Nat) : Int) > 3000) with
      | true =>
        refine enter rfl Tryd.func6 rfl Tryd.ntmps6 rfl ?_
        dsimp only [List.cons_append, List.nil_append, List.length_cons, List.length_nil, List.replicate_succ, List.replicate_zero, Nat.reduceAdd, Nat.reduceSub]
        repeat' (first
          | dsimp only [putD, DV.cells, DH.new_next, DH.set_next, List.length_cons, List.length_nil, Nat.reduceAdd, List.set_cons_zero, List.set_cons_succ, getD_zero, getD_succ, fieldAt_zero, fieldAt_succ, thenD, blockD, retR]
          | apply dwp_seq
          | apply dwp_region
          | apply ops_nil
          | (apply ops_plain; (· exact rfl))
          | (apply ops_on; (· exact rfl); (· exact rfl); (· (first | with_reducible assumption | with_reducible rfl | decide)))
          | (apply op_call; (· exact rfl); (· exact rfl); (· exact rfl); refine call_table (g := gLive) rfl rfl ?_)
          | (apply op_call; (· exact rfl); (· exact rfl); (· exact rfl); (refine (few23 _ _).mono ?_; rintro r0 H' ⟨rfl, rfl⟩; (first | rw [hfs] | rw [hfc])))
          | (apply op_pick_f; (· exact rfl); (· exact rfl); (· (first | with_reducible assumption | with_reducible rfl | decide)); (· exact rfl))
          | (apply op_told; (· exact rfl); (· exact congrArg (DV.int _) hsum))
          | (apply op_at; (· exact rfl))
          | (apply dwp_cond_t; (· exact rfl); (· (first | with_reducible assumption | with_reducible rfl | decide)))
          | apply dwp_ret
          | (refine ⟨_, rfl, ?_⟩)
          | fail)
      | false =>
        have hsm : s.length + c.length ≤ 3000 := by simp at hbig; omega
        refine enter rfl Tryd.func6 rfl Tryd.ntmps6 rfl ?_
        dsimp only [List.cons_append, List.nil_append, List.length_cons, List.length_nil, List.replicate_succ, List.replicate_zero, Nat.reduceAdd, Nat.reduceSub]
        repeat' (first
          | dsimp only [putD, DV.cells, DH.new_next, DH.set_next, List.length_cons, List.length_nil, Nat.reduceAdd, List.set_cons_zero, List.set_cons_succ, getD_zero, getD_succ, fieldAt_zero, fieldAt_succ, thenD, blockD, retR]
          | apply dwp_seq
          | apply dwp_region
          | apply ops_nil
          | (apply ops_plain; (· exact rfl))
          | (apply ops_on; (· exact rfl); (· exact rfl); (· (first | with_reducible assumption | with_reducible rfl | decide)))
          | (apply op_call; (· exact rfl); (· exact rfl); (· exact rfl); refine call_table (g := gLive) rfl rfl ?_)
          | (apply op_call; (· exact rfl); (· exact rfl); (· exact rfl); (refine (few23 _ _).mono ?_; rintro r0 H' ⟨rfl, rfl⟩; (first | rw [hfs] | rw [hfc])))
          | (apply op_pick_f; (· exact rfl); (· exact rfl); (· (first | with_reducible assumption | with_reducible rfl | decide)); (· exact rfl))
          | (apply op_told; (· exact rfl); (· exact congrArg (DV.int _) hsum))
          | (apply bx_range; (· exact rfl); (· exact rfl); (· exact rfl); (· assumption); intro bi H1 hB)
          | (apply op_at; (· exact rfl))
          | (apply dwp_cond_f; (· exact rfl); (· (first | with_reducible assumption | with_reducible rfl | decide)))
          | apply dwp_block
          | apply dwp_skip
          | fail)
        refine dwp_loop (fun st => ∃ (bi : Nat) (H1 : DH) (pos : Nat), ∃ J : Nat → DV, (Bx A H1 [(bi, .iter c pos)] [] ∧ pos ≤ c.length ∧ (Plain (c.drop pos) → Plain c)) ∧ st = ⟨(.str s :: .str c :: .int .u8 pad :: J 3 :: J 4 :: J 5 :: .bool false :: .bool true :: J 8 :: J 9 :: J 10 :: J 11 :: J 12 :: J 13 :: J 14 :: J 15 :: J 16 :: J 17 :: J 18 :: J 19 :: J 20 :: J 21 :: J 22 :: J 23 :: J 24 :: J 25 :: J 26 :: J 27 :: J 28 :: J 29 :: J 30 :: J 31 :: J 32 :: J 33 :: J 34 :: J 35 :: J 36 :: J 37 :: J 38 :: J 39 :: J 40 :: .ptr (some (bi, 0, 0)) :: J 42 :: J 43 :: J 44 :: J 45 :: J 46 :: J 47 :: J 48 :: J 49 :: J 50 :: J 51 :: J 52 :: J 53 :: J 54 :: J 55 :: J 56 :: J 57 :: J 58 :: J 59 :: J 60 :: J 61 :: J 62 :: J 63 :: J 64 :: J 65 :: J 66 :: J 67 :: J 68 :: J 69 :: J 70 :: J 71 :: J 72 :: J 73 :: J 74 :: J 75 :: J 76 :: J 77 :: J 78 :: J 79 :: J 80 :: J 81 :: J 82 :: J 83 :: J 84 :: J 85 :: J 86 :: J 87 :: J 88 :: J 89 :: J 90 :: J 91 :: J 92 :: J 93 :: J 94 :: J 95 :: J 96 :: J 97 :: J 98 :: J 99 :: J 100 :: []), H1⟩) (fun st => c.length - posOf st 41) (⟨_, _, 0, junk_facts (⟨hB, Nat.zero_le _, id⟩) rfl rfl⟩) ?_
        rintro st ⟨bi, H1, pos, J, ⟨hB, hpos, hpl⟩, rfl⟩
        by_cases hlt : pos < c.length
        · have hne : c.drop pos ≠ [] := by
            intro h
            have := congrArg List.length h
            rw [List.length_drop] at this
            simp at this
            omega
          obtain ⟨cn, w, hcw⟩ : ∃ cn w, decL (c.drop pos) = (cn, w) := ⟨_, _, rfl⟩
          have hww := decL_width hne
          rw [hcw, List.length_drop] at hww
          simp only at hww
          have hdec : Utf8.decode ⟨c.toArray⟩ pos = (cn, w) := by rw [decode_drop c pos hpos, hcw]
          have hB0 := hB
          cases h10 : ((cn : Int) == 10) with
          | true =>
            repeat' (first
              | dsimp only [putD, DV.cells, DH.new_next, DH.set_next, List.length_cons, List.length_nil, Nat.reduceAdd, List.set_cons_zero, List.set_cons_succ, getD_zero, getD_succ, fieldAt_zero, fieldAt_succ, thenD, blockD, retR]
              | apply dwp_seq
              | apply dwp_region
              | apply ops_nil
              | (apply ops_plain; (· exact rfl))
              | (apply ops_off0; (· exact rfl); (· exact rfl); (· (first | with_reducible assumption | with_reducible rfl | decide)))
              | (apply op_pick_t; (· exact rfl); (· exact rfl); (· (first | with_reducible assumption | with_reducible rfl | decide)); (· exact rfl))
              | (apply bx_next (c := cn) (w := w); (· exact rfl); (· exact rfl); (· assumption); (· (repeat (first | with_reducible exact Upd.here | with_reducible apply Upd.there | with_reducible apply upd_app))); (· exact hlt); (· exact hdec); intro H1 hB)
              | (apply op_at; (· exact rfl))
              | (apply dwp_cond_t; (· exact rfl); (· (first | with_reducible assumption | with_reducible rfl | decide)))
              | apply dwp_block
              | apply dwp_skip
              | apply dwp_ret
              | (refine ⟨_, rfl, ?_⟩)
              | fail)
          | false =>
            cases h65 : ((cn : Int) == 65533) with
            | true =>
              repeat' (first
                | dsimp only [putD, DV.cells, DH.new_next, DH.set_next, List.length_cons, List.length_nil, Nat.reduceAdd, List.set_cons_zero, List.set_cons_succ, getD_zero, getD_succ, fieldAt_zero, fieldAt_succ, thenD, blockD, retR]
                | apply dwp_seq
                | apply dwp_region
                | apply ops_nil
                | (apply ops_plain; (· exact rfl))
                | (apply ops_on; (· exact rfl); (· exact rfl); (· (first | with_reducible assumption | with_reducible rfl | decide)))
                | (apply op_pick_f; (· exact rfl); (· exact rfl); (· (first | with_reducible assumption | with_reducible rfl | decide)); (· exact rfl))
                | (apply bx_next (c := cn) (w := w); (· exact rfl); (· exact rfl); (· assumption); (· (repeat (first | with_reducible exact Upd.here | with_reducible apply Upd.there | with_reducible apply upd_app))); (· exact hlt); (· exact hdec); intro H1 hB)
                | (apply op_at; (· exact rfl))
                | (apply dwp_cond_t; (· exact rfl); (· (first | with_reducible assumption | with_reducible rfl | decide)))
                | apply dwp_block
                | apply dwp_skip
                | apply dwp_ret
                | (refine ⟨_, rfl, ?_⟩)
                | fail)
            | false =>
              repeat' (first
                | dsimp only [putD, DV.cells, DH.new_next, DH.set_next, List.length_cons, List.length_nil, Nat.reduceAdd, List.set_cons_zero, List.set_cons_succ, getD_zero, getD_succ, fieldAt_zero, fieldAt_succ, thenD, blockD, retR]
                | apply dwp_seq
                | apply dwp_region
                | apply ops_nil
                | (apply ops_plain; (· exact rfl))
                | (apply ops_on; (· exact rfl); (· exact rfl); (· (first | with_reducible assumption | with_reducible rfl | decide)))
                | (apply op_pick_f; (· exact rfl); (· exact rfl); (· (first | with_reducible assumption | with_reducible rfl | decide)); (· exact rfl))
                | (apply bx_next (c := cn) (w := w); (· exact rfl); (· exact rfl); (· assumption); (· (repeat (first | with_reducible exact Upd.here | with_reducible apply Upd.there | with_reducible apply upd_app))); (· exact hlt); (· exact hdec); intro H1 hB)
                | (apply op_at; (· exact rfl))
                | (apply dwp_cond_t; (· exact rfl); (· (first | with_reducible assumption | with_reducible rfl | decide)))
                | (apply dwp_cond_f; (· exact rfl); (· (first | with_reducible assumption | with_reducible rfl | decide)))
                | apply dwp_block
                | apply dwp_skip
                | fail)
              have k1 : cn ≠ 10 := by
                have : ¬ (cn : Int) = 10 := by simpa using h10
                omega
              have k2 : cn ≠ 65533 := by
                have : ¬ (cn : Int) = 65533 := by simpa using h65
                omega
              refine ⟨⟨_, _, pos + w, junk_facts ⟨hB, by omega, fun h => hpl (plain_step hne hcw k1 k2 h)⟩ rfl rfl⟩, ?_⟩
              rw [posOf_at rfl (hB.get At.here), posOf_at rfl (hB0.get At.here)]
              omega
        · have hplain : Plain c := hpl (by rw [List.drop_eq_nil_of_le (by omega)]; exact plain_nil)
          have hp7 : 0 ≤ pad.tmod 7 ∧ pad.tmod 7 ≤ 6 := by
            have : pad.tmod 7 = pad % 7 := Int.tmod_eq_emod_of_nonneg hpad.1
            omega
          obtain ⟨pp, hpp⟩ : ∃ x, ([10, 10, 10, 10, 9, 32] : List UInt8).take (pad.tmod 7).toNat = x := ⟨_, rfl⟩
          have hpl6 : pp.length ≤ 6 := by rw [← hpp]; simp; omega
          have hpb : ∀ x ∈ pp, x = 32 ∨ x = 9 ∨ x = 10 := by
            intro x hx
            rw [← hpp] at hx
            have := List.mem_of_mem_take hx
            simp only [List.mem_cons, List.not_mem_nil, or_false] at this
            rcases this with h | h | h | h | h | h <;> simp [h]
          obtain ⟨r1, r2⟩ := remarks pp s c hpb hplain
          obtain ⟨r3, r4⟩ := remark_alone c hplain
          have l1 : s.length ≤ 65536 := by omega
          have l2 : (pp ++ s ++ [10, 35] ++ c).length ≤ 65536 := by simp; omega
          have l3 : ([35, 32] ++ c).length ≤ 65536 := by simp; omega
          have a1 : pp.length + s.length ≤ 4294967296 := by omega
          have a2 : (pp ++ s).length + 2 ≤ 4294967296 := by simp; omega
          have a3 : (pp ++ s ++ [10, 35]).length + c.length ≤ 4294967296 := by simp; omega
          have a4 : 2 + c.length ≤ 4294967296 := by omega
          by_cases he : (cutF s).e = 0
          · have het : (cutF (pp ++ s ++ [10, 35] ++ c)).e = 0 := by rw [r1]; exact he
            have htk := r2 he
            have hlt1 : (cutF s).toks.length ≤ 1000000 := by
              have k1 := goR_len (runes s) cu0 (1, 1)
              have k2 := runes_len _ s (Nat.le_refl _)
              have k3 : cu0.toks.length = 0 := rfl
              unfold cutF
              omega
            repeat' (first
              | dsimp only [putD, DV.cells, DH.new_next, DH.set_next, List.length_cons, List.length_nil, Nat.reduceAdd, List.set_cons_zero, List.set_cons_succ, getD_zero, getD_succ, fieldAt_zero, fieldAt_succ, thenD, blockD, retR]
              | apply dwp_seq
              | apply dwp_region
              | apply ops_nil
              | (apply ops_plain; (· exact rfl))
              | (apply ops_on; (· exact rfl); (· exact rfl); (· (first | with_reducible assumption | with_reducible rfl | decide)))
              | (apply op_call; (· exact rfl); (· exact rfl); (· exact rfl); (apply cut_ok (s := s); (· exact l1); (· exact he); (· assumption); intro s1 s2 x1 x2 H1 o1 o2 hB))
              | (apply op_call; (· exact rfl); (· exact rfl); (· exact rfl); (apply cut_ok (s := pp ++ s ++ [10, 35] ++ c); (· exact l2); (· exact het); (· assumption); intro s3 s4 x3 x4 H1 o3 o4 hB))
              | (apply op_call; (· exact rfl); (· exact rfl); (· exact rfl); (apply cut_ok (s := [35, 32] ++ c); (· exact l3); (· exact r3); (· assumption); intro s5 s6 x5 x6 H1 o5 o6 hB; have hn5 : ((s5.n : Int) == 0) = true := by rw [own_len o5, r4]; rfl))
              | (apply op_call; (· exact rfl); (· exact rfl); (· exact rfl); (obtain ⟨p1, c1, ex1, e1, sl1⟩ := o1.sl hB (by (repeat (first | with_reducible exact Ctx.here | with_reducible apply Ctx.cons | with_reducible apply Ctx.app))); obtain ⟨p3, c3, ex3, e3, sl3⟩ := o3.sl hB (by (repeat (first | with_reducible exact Ctx.here | with_reducible apply Ctx.cons | with_reducible apply Ctx.app))); rw [e1, e3, List.length_map, List.length_map]; refine (same25 sl1 sl3 hlt1).mono ?_; rintro r0 H' ⟨rfl, rfl⟩; rw [htk, decide_eq_true rfl]))
              | (apply op_pick_t; (· exact rfl); (· exact rfl); (· (first | with_reducible assumption | with_reducible rfl | decide)); (· exact rfl))
              | (apply bx_next_end; (· exact rfl); (· exact rfl); (· assumption); (· exact At.here); (· exact hlt))
              | (apply op_told; (· exact opD_strTake (m := pad.tmod 7) rfl rfl rfl rfl (by first | exact hp7 | exact ⟨hp7.1, Int.le_trans hp7.2 (by decide)⟩)); (· exact congrArg DV.str hpp))
              | (apply op_at; (· exact opD_strAdd rfl rfl rfl a1))
              | (apply op_at; (· exact opD_strAdd rfl rfl rfl a2))
              | (apply op_at; (· exact opD_strAdd rfl rfl rfl a3))
              | (apply op_at; (· exact opD_strAdd rfl rfl rfl a4))
              | (apply bx_store0; (· exact rfl); (· exact rfl); (· exact rfl); (· assumption); (· (first | (dsimp only [putD, DV.cells, DH.new_next, DH.set_next, List.length_cons, List.length_nil, Nat.reduceAdd, List.set_cons_zero, List.set_cons_succ, getD_zero, getD_succ, fieldAt_zero, fieldAt_succ, thenD, blockD, retR, Sv.cells]; done) | (dsimp only [putD, DV.cells, DH.new_next, DH.set_next, List.length_cons, List.length_nil, Nat.reduceAdd, List.set_cons_zero, List.set_cons_succ, getD_zero, getD_succ, fieldAt_zero, fieldAt_succ, thenD, blockD, retR, Sv.cells]; exact rfl) | exact rfl)); (· (repeat (first | with_reducible exact Upd.here | with_reducible apply Upd.there | with_reducible apply upd_app))); (· exact rfl); (· exact rfl); (· exact rfl); (· exact rfl); intro H1 hB)
              | (apply bx_alloc; (· exact rfl); (· exact zero49); (· (first | (dsimp only [putD, DV.cells, DH.new_next, DH.set_next, List.length_cons, List.length_nil, Nat.reduceAdd, List.set_cons_zero, List.set_cons_succ, getD_zero, getD_succ, fieldAt_zero, fieldAt_succ, thenD, blockD, retR, Sv.cells]; done) | (dsimp only [putD, DV.cells, DH.new_next, DH.set_next, List.length_cons, List.length_nil, Nat.reduceAdd, List.set_cons_zero, List.set_cons_succ, getD_zero, getD_succ, fieldAt_zero, fieldAt_succ, thenD, blockD, retR, Sv.cells]; exact rfl) | exact rfl)); (· exact rfl); (· exact rfl); (· assumption); intro b1 H1 hB)
              | (apply op_at; (· exact rfl))
              | (apply dwp_cond_f; (· exact rfl); (· (first | with_reducible assumption | with_reducible rfl | decide)))
              | apply dwp_ret
              | apply dwp_exit
              | (refine ⟨_, rfl, ?_⟩)
              | fail)
            rw [hn5]
          · have het : (cutF (pp ++ s ++ [10, 35] ++ c)).e ≠ 0 := by rw [r1]; exact he
            have heq : ((cutF s).e == (cutF (pp ++ s ++ [10, 35] ++ c)).e) = true := by rw [r1]; simp
            repeat' (first
              | dsimp only [putD, DV.cells, DH.new_next, DH.set_next, List.length_cons, List.length_nil, Nat.reduceAdd, List.set_cons_zero, List.set_cons_succ, getD_zero, getD_succ, fieldAt_zero, fieldAt_succ, thenD, blockD, retR]
              | apply dwp_seq
              | apply dwp_region
              | apply ops_nil
              | (apply ops_plain; (· exact rfl))
              | (apply ops_on; (· exact rfl); (· exact rfl); (· (first | with_reducible assumption | with_reducible rfl | decide)))
              | (apply op_call; (· exact rfl); (· exact rfl); (· exact rfl); (apply cut_err (s := s); (· exact l1); (· exact he); (· assumption); intro H1 hB))
              | (apply op_call; (· exact rfl); (· exact rfl); (· exact rfl); (apply cut_err (s := pp ++ s ++ [10, 35] ++ c); (· exact l2); (· exact het); (· assumption); intro H1 hB))
              | (apply op_call; (· exact rfl); (· exact rfl); (· exact rfl); (apply cut_ok (s := [35, 32] ++ c); (· exact l3); (· exact r3); (· assumption); intro s5 s6 x5 x6 H1 o5 o6 hB; have hn5 : ((s5.n : Int) == 0) = true := by rw [own_len o5, r4]; rfl))
              | (apply op_call; (· exact rfl); (· exact rfl); (· exact rfl); (refine (same25 (l := []) (m := []) (.nil rfl) (.nil rfl) (Nat.zero_le _)).mono ?_; rintro r0 H' ⟨rfl, rfl⟩; rw [decide_eq_true rfl]))
              | (apply op_pick_t; (· exact rfl); (· exact rfl); (· (first | with_reducible assumption | with_reducible rfl | decide)); (· exact rfl))
              | (apply bx_next_end; (· exact rfl); (· exact rfl); (· assumption); (· exact At.here); (· exact hlt))
              | (apply op_told; (· exact opD_strTake (m := pad.tmod 7) rfl rfl rfl rfl (by first | exact hp7 | exact ⟨hp7.1, Int.le_trans hp7.2 (by decide)⟩)); (· exact congrArg DV.str hpp))
              | (apply op_at; (· exact opD_strAdd rfl rfl rfl a1))
              | (apply op_at; (· exact opD_strAdd rfl rfl rfl a2))
              | (apply op_at; (· exact opD_strAdd rfl rfl rfl a3))
              | (apply op_at; (· exact opD_strAdd rfl rfl rfl a4))
              | (apply bx_store0; (· exact rfl); (· exact rfl); (· exact rfl); (· assumption); (· (first | (dsimp only [putD, DV.cells, DH.new_next, DH.set_next, List.length_cons, List.length_nil, Nat.reduceAdd, List.set_cons_zero, List.set_cons_succ, getD_zero, getD_succ, fieldAt_zero, fieldAt_succ, thenD, blockD, retR, Sv.cells]; done) | (dsimp only [putD, DV.cells, DH.new_next, DH.set_next, List.length_cons, List.length_nil, Nat.reduceAdd, List.set_cons_zero, List.set_cons_succ, getD_zero, getD_succ, fieldAt_zero, fieldAt_succ, thenD, blockD, retR, Sv.cells]; exact rfl) | exact rfl)); (· (repeat (first | with_reducible exact Upd.here | with_reducible apply Upd.there | with_reducible apply upd_app))); (· exact rfl); (· exact rfl); (· exact rfl); (· exact rfl); intro H1 hB)
              | (apply bx_alloc; (· exact rfl); (· exact zero49); (· (first | (dsimp only [putD, DV.cells, DH.new_next, DH.set_next, List.length_cons, List.length_nil, Nat.reduceAdd, List.set_cons_zero, List.set_cons_succ, getD_zero, getD_succ, fieldAt_zero, fieldAt_succ, thenD, blockD, retR, Sv.cells]; done) | (dsimp only [putD, DV.cells, DH.new_next, DH.set_next, List.length_cons, List.length_nil, Nat.reduceAdd, List.set_cons_zero, List.set_cons_succ, getD_zero, getD_succ, fieldAt_zero, fieldAt_succ, thenD, blockD, retR, Sv.cells]; exact rfl) | exact rfl)); (· exact rfl); (· exact rfl); (· assumption); intro b1 H1 hB)
              | (apply op_at; (· exact rfl))
              | (apply dwp_cond_f; (· exact rfl); (· (first | with_reducible assumption | with_reducible rfl | decide)))
              | apply dwp_ret
              | apply dwp_exit
              | (refine ⟨_, rfl, ?_⟩)
              | fail)
            rw [hn5]
end Go.Det.C

/- LexNumbers. -/
namespace Go.Det.C
open Go Go.Det Go.Proofs
set_option maxRecDepth 4000
set_option maxHeartbeats 4000000
set_option linter.unusedVariables false
set_option linter.unusedSimpArgs false
section
variable {A H : DH} {bs : List (Nat × DObj)} {fs : List (DH → Prop)} {K : DV → DH → Prop}
/-- A number's text. -/
theorem text27n {s : List UInt8} {n : Int} (hn : -1000000000000000000 < n ∧ n < 1000000000000000000) (hB : Bx A H bs fs) (hK : ∀ H', Bx A H' bs fs → K (.tuple [.str (decF n), .int .i64 0]) H') : CallWp Tryd.prog X3 27 [.agg [.int .i64 2, .str s, .int .i64 n, .bool false]] H K := by
  have h1 : decide (n ≤ -1000000000000000000) = false := by simp; omega
  have h2 : decide (n ≥ 1000000000000000000) = false := by simp; omega
  have heq := eqTok ⟨2, s, n, false⟩ ⟨2, s, 0, false⟩
  refine enter rfl Tryd.func27 rfl Tryd.ntmps27 rfl ?_
  dsimp only [List.cons_append, List.nil_append, List.length_cons, List.length_nil, List.replicate_succ, List.replicate_zero, Nat.reduceAdd, Nat.reduceSub]
  repeat' (first
    | dsimp only [putD, DV.cells, DH.new_next, DH.set_next, List.length_cons, List.length_nil, Nat.reduceAdd, List.set_cons_zero, List.set_cons_succ, getD_zero, getD_succ, fieldAt_zero, fieldAt_succ, thenD, blockD, retR]
    | apply dwp_seq
    | apply dwp_region
    | apply ops_nil
    | (apply ops_plain; (· exact rfl))
    | (apply ops_on; (· exact rfl); (· exact rfl); (· (first | with_reducible assumption | with_reducible rfl | decide)))
    | (apply ops_off1; (· exact rfl); (· exact rfl); (· (first | with_reducible assumption | with_reducible rfl | decide)))
    | (apply ops_offn; (· exact rfl); (· exact rfl))
    | (apply op_call; (· exact rfl); (· exact rfl); (· exact rfl); (apply dec59 (n := n); (· exact hn); (· assumption); intro H1 hB))
    | (apply op_pick_f; (· exact rfl); (· exact rfl); (· (first | with_reducible assumption | with_reducible rfl | decide)); (· exact rfl))
    | (apply op_at; (· exact opD_eql rfl rfl rfl heq))
    | (apply bx_load0; (· exact rfl); (· exact rfl); (· assumption); (· (repeat (first | with_reducible exact At.here | with_reducible apply At.there | with_reducible apply at_app))); (· (first | exact part57 _ _ _ _ | exact part49 _ _ | exact rfl)))
    | (apply bx_box; (· exact rfl); (· exact rfl); (· (first | (dsimp only [putD, DV.cells, DH.new_next, DH.set_next, List.length_cons, List.length_nil, Nat.reduceAdd, List.set_cons_zero, List.set_cons_succ, getD_zero, getD_succ, fieldAt_zero, fieldAt_succ, thenD, blockD, retR, Sv.cells]; done) | (dsimp only [putD, DV.cells, DH.new_next, DH.set_next, List.length_cons, List.length_nil, Nat.reduceAdd, List.set_cons_zero, List.set_cons_succ, getD_zero, getD_succ, fieldAt_zero, fieldAt_succ, thenD, blockD, retR, Sv.cells]; exact rfl) | exact rfl)); (· exact rfl); (· exact rfl); (· assumption); intro b1 H1 hB)
    | (apply op_at; (· exact rfl))
    | (apply dwp_cond_f; (· exact rfl); (· (first | with_reducible assumption | with_reducible rfl | decide)))
    | apply dwp_block
    | apply dwp_skip
    | apply dwp_ret
    | (refine ⟨_, rfl, ?_⟩)
    | fail)
  exact hK _ (hB.sub (by (repeat (first | exact List.Sublist.refl _ | exact List.nil_sublist _ | apply List.Sublist.cons_cons | apply List.Sublist.cons | apply List.Sublist.append_left | refine List.Sublist.trans ?_ (List.sublist_append_right _ _)))))
theorem two_rows {z : Nat} {r1 r2 : List DV} {s : Sv} {bx : List (Nat × DObj)} (h : Own1 z [r1, r2] s.dv bx) : ∃ b c ex rs, s = ⟨some (b, 0, z), 2, c, ex⟩ ∧ bx = [(b, .rows false z rs)] ∧ rs[0 + Int.toNat 0]? = some r1 ∧ rs[0 + Int.toNat 1]? = some r2 := by
  obtain ⟨b, c, ex, rs, e1, e2, e3, e4, e5⟩ := own_box h (by simp)
  simp only [List.length_cons, List.length_nil] at e1 e3 e4
  match rs, e3, e4 with
  | x :: y :: t, e3, _ =>
    simp only [Nat.zero_add, Nat.reduceAdd, List.take_succ_cons, List.take_zero, List.cons.injEq, and_true] at e3
    obtain ⟨rfl, rfl⟩ := e3
    exact ⟨b, c, ex, _, e1, e2, rfl, rfl⟩
theorem numbers8 (n pad : Int) (hn : -2147483648 ≤ n ∧ n < 2147483648) (hpad : 0 ≤ pad ∧ pad ≤ 255) {A H : DH} (hB : Bx A H [] []) : CallWp Tryd.prog X3 8 [.int .i32 n, .int .u8 pad] H (fun r _ => r = .bool true) := by
  have hw : IntKind.i64.wrap n = n := wrapI (by omega)
  have hn' : -1000000000000000000 < n ∧ n < 1000000000000000000 := by omega
  obtain ⟨r1, r2⟩ := numbers n (by omega)
  have hz : 0 ≤ pad.tmod 9 ∧ pad.tmod 9 ≤ 8 := by
    have : pad.tmod 9 = pad % 9 := Int.tmod_eq_emod_of_nonneg hpad.1
    omega
  obtain ⟨r3, r4⟩ := noughts (pad.tmod 9).toNat (by omega)
  have hlen : (decF n).length ≤ 19 := by
    unfold decF
    have := decN_len 17 n.natAbs (by omega)
    split
    · simp; omega
    · omega
  obtain ⟨pp, hpp⟩ : ∃ x, ([48, 48, 48, 48, 48, 48, 48, 48] : List UInt8).take (pad.tmod 9).toNat = x := ⟨_, rfl⟩
  rw [hpp] at r3 r4
  have hppl : pp.length ≤ 8 := by rw [← hpp]; simp; omega
  have a1 : (decF n).length + 1 ≤ 4294967296 := by omega
  have a2 : (decF n ++ [32]).length + (decF n).length ≤ 4294967296 := by simp; omega
  have a3 : (decF n ++ [32] ++ decF n).length + 2 ≤ 4294967296 := by simp; omega
  have a4 : pp.length + 2 ≤ 4294967296 := by omega
  have l1 : (decF n ++ [32] ++ decF n ++ [117, 115]).length ≤ 65536 := by simp; omega
  have l2 : (pp ++ [55, 59]).length ≤ 65536 := by simp; omega
  have w1 : IntKind.i64.wrap (1000000 * n) = 1000000 * n := wrapI (by omega)
  have c1 : (n != n) = false := by simp
  have c2 : (1000000 * n != 1000000 * n) = false := by simp
  have in0 : 0 ≤ (0 : Int) ∧ (0 : Int) < ((2 : Nat) : Int) := by decide
  have in1 : 0 ≤ (1 : Int) ∧ (1 : Int) < ((2 : Nat) : Int) := by decide
  refine enter rfl Tryd.func8 rfl Tryd.ntmps8 rfl ?_
  dsimp only [List.cons_append, List.nil_append, List.length_cons, List.length_nil, List.replicate_succ, List.replicate_zero, Nat.reduceAdd, Nat.reduceSub]
  repeat' (first
    | dsimp only [putD, DV.cells, DH.new_next, DH.set_next, List.length_cons, List.length_nil, Nat.reduceAdd, List.set_cons_zero, List.set_cons_succ, getD_zero, getD_succ, fieldAt_zero, fieldAt_succ, thenD, blockD, retR]
    | apply dwp_seq
    | apply dwp_region
    | apply ops_nil
    | (apply ops_plain; (· exact rfl))
    | (apply ops_on; (· exact rfl); (· exact rfl); (· (first | with_reducible assumption | with_reducible rfl | decide)))
    | (apply op_call; (· exact rfl); (· exact rfl); (· exact rfl); refine call_table (g := gLive) rfl rfl ?_)
    | (apply op_call; (· exact rfl); (· exact rfl); (· exact rfl); (apply text27n (n := n); (· exact hn'); (· assumption); intro H1 hB))
    | (apply op_call; (· exact rfl); (· exact rfl); (· exact rfl); (apply cut_ok (s := decF n ++ [32] ++ decF n ++ [117, 115]); (· exact l1); (· exact r1); (· assumption); intro s1 s2 x1 x2 H1 o1 o2 hB; rw [r2] at o1; obtain ⟨bq, cq, eq, rs, e1, e2, hr0, hr1⟩ := two_rows o1; subst e1 e2; dsimp only [List.cons_append, List.nil_append] at hB))
    | (apply op_call; (· exact rfl); (· exact rfl); (· exact rfl); (apply cut_ok (s := pp ++ [55, 59]); (· exact l2); (· exact r3); (· assumption); intro s1 s2 x1 x2 H1 o1 o2 hB; rw [r4] at o1; obtain ⟨bq, cq, eq, rs, e1, e2, hq0, hq1⟩ := two_rows o1; subst e1 e2; dsimp only [List.cons_append, List.nil_append] at hB))
    | (apply op_pick_t; (· exact rfl); (· exact rfl); (· (first | with_reducible assumption | with_reducible rfl | decide)); (· exact rfl))
    | (apply op_pick_f; (· exact rfl); (· exact rfl); (· (first | with_reducible assumption | with_reducible rfl | decide)); (· exact rfl))
    | (apply op_told; (· exact rfl); (· exact congrArg (DV.int _) hw))
    | (apply op_told; (· exact rfl); (· exact congrArg (DV.int _) w1))
    | (apply op_at; (· exact opD_rem rfl rfl rfl (by decide) rfl))
    | (apply op_told; (· exact opD_strTake (m := pad.tmod 9) rfl rfl rfl rfl (by first | exact hz | exact ⟨hz.1, Int.le_trans hz.2 (by decide)⟩)); (· exact congrArg DV.str hpp))
    | (apply op_at; (· exact opD_strAdd rfl rfl rfl a1))
    | (apply op_at; (· exact opD_strAdd rfl rfl rfl a2))
    | (apply op_at; (· exact opD_strAdd rfl rfl rfl a3))
    | (apply op_at; (· exact opD_strAdd rfl rfl rfl a4))
    | (apply op_index_at; (· exact rfl); (· exact rfl); (· exact rfl); (· with_reducible exact in0); (· exact rfl); (· exact rfl))
    | (apply op_index_at; (· exact rfl); (· exact rfl); (· exact rfl); (· with_reducible exact in1); (· exact rfl); (· exact rfl))
    | (apply bx_load; (· exact rfl); (· exact rfl); (· assumption); (· (repeat (first | with_reducible exact At.here | with_reducible apply At.there | with_reducible apply at_app))); (· exact hr0); (· exact rfl))
    | (apply bx_load; (· exact rfl); (· exact rfl); (· assumption); (· (repeat (first | with_reducible exact At.here | with_reducible apply At.there | with_reducible apply at_app))); (· exact hr1); (· exact rfl))
    | (apply bx_load; (· exact rfl); (· exact rfl); (· assumption); (· (repeat (first | with_reducible exact At.here | with_reducible apply At.there | with_reducible apply at_app))); (· exact hq0); (· exact rfl))
    | (apply bx_load; (· exact rfl); (· exact rfl); (· assumption); (· (repeat (first | with_reducible exact At.here | with_reducible apply At.there | with_reducible apply at_app))); (· exact hq1); (· exact rfl))
    | (apply bx_store0; (· exact rfl); (· exact rfl); (· exact rfl); (· assumption); (· (first | (dsimp only [putD, DV.cells, DH.new_next, DH.set_next, List.length_cons, List.length_nil, Nat.reduceAdd, List.set_cons_zero, List.set_cons_succ, getD_zero, getD_succ, fieldAt_zero, fieldAt_succ, thenD, blockD, retR, Sv.cells]; done) | (dsimp only [putD, DV.cells, DH.new_next, DH.set_next, List.length_cons, List.length_nil, Nat.reduceAdd, List.set_cons_zero, List.set_cons_succ, getD_zero, getD_succ, fieldAt_zero, fieldAt_succ, thenD, blockD, retR, Sv.cells]; exact rfl) | exact rfl)); (· (repeat (first | with_reducible exact Upd.here | with_reducible apply Upd.there | with_reducible apply upd_app))); (· exact rfl); (· exact rfl); (· exact rfl); (· exact rfl); intro H1 hB)
    | (apply bx_alloc; (· exact rfl); (· exact zero49); (· (first | (dsimp only [putD, DV.cells, DH.new_next, DH.set_next, List.length_cons, List.length_nil, Nat.reduceAdd, List.set_cons_zero, List.set_cons_succ, getD_zero, getD_succ, fieldAt_zero, fieldAt_succ, thenD, blockD, retR, Sv.cells]; done) | (dsimp only [putD, DV.cells, DH.new_next, DH.set_next, List.length_cons, List.length_nil, Nat.reduceAdd, List.set_cons_zero, List.set_cons_succ, getD_zero, getD_succ, fieldAt_zero, fieldAt_succ, thenD, blockD, retR, Sv.cells]; exact rfl) | exact rfl)); (· exact rfl); (· exact rfl); (· assumption); intro b1 H1 hB)
    | (apply op_at; (· exact rfl))
    | (apply dwp_cond_f; (· exact rfl); (· (first | with_reducible assumption | with_reducible rfl | decide)))
    | apply dwp_skip
    | apply dwp_ret
    | (refine ⟨_, rfl, ?_⟩)
    | fail)
  all_goals first | rfl | decide
end
end Go.Det.C

/- A row out of what the deterministic reading comes to: slices' weights handed on. -/
namespace Go.Det
set_option linter.unusedVariables false
set_option linter.unusedSimpArgs false
open Go.ChangeShapes Go.WideShapes Go.RowKit
section
variable {P : Program} {A : Type} {enc : TypeId × Value → A} {W : World}
end
end Go.Det
