/- strings.Join as a table. -/
import Derived.Shelf.Strings.OnBuilder
import Derived.Test.YtlmjhpnmfmnmgaaDoorLexT8
namespace Go.Proofs
open Go.Shelf Go.RowKit
-- what the kit's command 'shelf_lay Lays.n156 Nm 156 at Tryd' lays, in plain words
def Tryd.lays156_ren : Go.Shelf.Ren := ⟨fun | 156 => 60 | 165 => 85 | 166 => 38 | 169 => 42 | 240 => 68 | 241 => 97 | 276 => 87 | 277 => 110 | n => n, fun | 31 => 96 | 9 => 9 | 3 => 3 | 4 => 4 | 0 => 0 | 20 => 20 | 72 => 70 | 76 => 75 | 70 => 67 | 37 => 68 | 75 => 74 | 127 => 111 | 164 => 126 | 5 => 5 | 80 => 79 | n => n, fun | n => n⟩
theorem Tryd.lays156 : Go.Proofs.Lays.n156 Tryd.prog Tryd.lays156_ren where
  mixed := by kernel_rfl
  f156 := Tryd.func60.trans (congrArg some (by kernel_rfl))
  f165 := Tryd.func85.trans (congrArg some (by kernel_rfl))
  f166 := Tryd.func38.trans (congrArg some (by kernel_rfl))
  f169 := Tryd.func42.trans (congrArg some (by kernel_rfl))
  f240 := Tryd.func68.trans (congrArg some (by kernel_rfl))
  f241 := Tryd.func97.trans (congrArg some (by kernel_rfl))
  f276 := Tryd.func87.trans (congrArg some (by kernel_rfl))
  f277 := Tryd.func110.trans (congrArg some (by kernel_rfl))
  t0 := Tryd.underlying0
  a0 := Tryd.isAgg0
  z0 := Tryd.sizeOf0
  v0 := Tryd.zeroValue0
  t3 := Tryd.underlying3
  a3 := Tryd.isAgg3
  z3 := Tryd.sizeOf3
  v3 := Tryd.zeroValue3
  t4 := Tryd.underlying4
  a4 := Tryd.isAgg4
  z4 := Tryd.sizeOf4
  v4 := Tryd.zeroValue4
  t9 := Tryd.underlying9
  a9 := Tryd.isAgg9
  z9 := Tryd.sizeOf9
  v9 := Tryd.zeroValue9
  t20 := Tryd.underlying20
  a20 := Tryd.isAgg20
  z20 := Tryd.sizeOf20
  v20 := Tryd.zeroValue20
  t31 := Tryd.underlying96
  a31 := Tryd.isAgg96
  z31 := Tryd.sizeOf96
  v31 := Tryd.zeroValue96
  t37 := Tryd.underlying68
  a37 := Tryd.isAgg68
  z37 := Tryd.sizeOf68
  v37 := Tryd.zeroValue68
  t70 := Tryd.underlying67
  a70 := Tryd.isAgg67
  z70 := Tryd.sizeOf67
  v70 := Tryd.zeroValue67
  t72 := Tryd.underlying70
  a72 := Tryd.isAgg70
  z72 := Tryd.sizeOf70
  v72 := Tryd.zeroValue70
  t75 := Tryd.underlying74
  a75 := Tryd.isAgg74
  z75 := Tryd.sizeOf74
  v75 := Tryd.zeroValue74
  t76 := Tryd.underlying75
  a76 := Tryd.isAgg75
  z76 := Tryd.sizeOf75
  v76 := Tryd.zeroValue75
  t127 := Tryd.underlying111
  a127 := Tryd.isAgg111
  z127 := Tryd.sizeOf111
  v127 := Tryd.zeroValue111
  t164 := Tryd.underlying126
  a164 := Tryd.isAgg126
  z164 := Tryd.sizeOf126
  v164 := Tryd.zeroValue126
theorem Tryd.bextra156 : Builder.Extra Tryd.prog Tryd.lays156_ren where
  sizeBuilder := by kernel_rfl
  liesBuilder := by kernel_rfl
  t5 := Tryd.underlying5
  a5 := Tryd.isAgg5
  z5 := Tryd.sizeOf5
  v5 := Tryd.zeroValue5
  infoByte := by kernel_rfl
  cellsByte := by kernel_rfl
  sizeByte := by kernel_rfl
  neB5 := by decide
end Go.Proofs
namespace Go.Det.C
open Go Go.Det Go.Proofs Go.RowKit
set_option maxRecDepth 4000
set_option linter.unusedVariables false
set_option linter.unusedSimpArgs false
def strsL : List (List DV) → Option (List (List UInt8))
  | [] => some []
  | [.str s] :: r => (strsL r).map (s :: ·)
  | _ => none
theorem strsL_map (l : List (List UInt8)) : strsL (l.map fun s => [DV.str s]) = some l := by
  induction l with
  | nil => rfl
  | cons x l ih => simp [strsL, ih]
theorem map_strsL : ∀ {rows : List (List DV)} {l : List (List UInt8)}, strsL rows = some l → rows = l.map fun s => [DV.str s]
  | [], l, h => by simp only [strsL] at h; cases h; rfl
  | r :: rows, l, h => by
    unfold strsL at h
    split at h
    · rename_i e; cases e
    · rename_i s r' e
      cases e
      cases hr : strsL rows with
      | none => rw [hr] at h; cases h
      | some m =>
        rw [hr] at h
        cases h
        rw [map_strsL hr]
        rfl
    · cases h
/-- Texts, joined. -/
def joinF (l : List (List UInt8)) (sep : List UInt8) : List UInt8 := Lib.join l sep
def gJoin : G := fun args H => match args with
  | [.sl p n c ex, .str sep] => if n = 0 then some (.str [], H) else match p with
    | some (loc, i, z) => match H.obj loc with
      | some (.rows ro sz rs) => if sz = 1 ∧ z = 1 ∧ n ≤ 1000000 ∧ i + n ≤ rs.length then (match strsL ((rs.drop i).take n) with
          | some l => if (joinF l sep).length ≤ 4294967296 then some (.str (joinF l sep), H) else none
          | none => none) else none
      | _ => none
    | none => none
  | _ => none
theorem moves_below {ρ : Rho} {H : DH} {w w' : World} (ha : Agree ρ H w) (hb : Below w.heap.size w w') : Moves ρ H w ρ H w' where
  le := Rho.le_refl _
  agree := ⟨ha.low, fun l pl h => Nat.lt_of_lt_of_le (ha.lies l pl h) hb.size, fun l o h => by
    obtain ⟨pl, hp, ho⟩ := ha.obj l o h
    exact ⟨pl, hp, by rw [hb.block _ (ha.lies l pl hp)]; exact ho⟩, ha.apart⟩
  os := hb.os
  tape := hb.tape
  output := hb.output
  drawn := trivial
  size := hb.size
  same := fun b h _ => hb.block b h
  own := fun b h => .inl h
  fresh := fun _ _ h => .inl h
theorem VR_str_iff {ρ : Rho} {s : List UInt8} {v : Value} : VR ρ (.str s) v ↔ v = .string ⟨s.toArray⟩ := by simp [VR]
theorem join_none {p : Option (Nat × Nat × Nat)} {c : Nat} {ex : Bool} {sep : List UInt8} {ρ : Rho} {H : DH} {w : World} (ha : Agree ρ H w) {v : Value} (hv : VR ρ (.sl p 0 c ex) v) :
    Calls Tryd.prog 60 #[v, .string ⟨sep.toArray⟩] w fun e w' => e = .returned (.string ⟨#[]⟩) ∧ Moves ρ H w ρ H w' := by
  have key : ∃ a c', v = .slice a 0 c' := by
    cases p with
    | none => simp only [VR] at hv; exact ⟨none, 0, hv.2.2⟩
    | some q =>
      obtain ⟨l, i, z⟩ := q
      simp only [VR] at hv
      obtain ⟨pl, a, c', _, _, e, _⟩ := hv
      exact ⟨_, _, e⟩
  obtain ⟨a, c', rfl⟩ := key
  refine (Any.strings_Join_none Tryd.lays156 Tryd.bextra156 a c' ⟨sep.toArray⟩ w).mono ?_
  rintro e w' ⟨he, rfl⟩
  exact ⟨he, Moves.refl ha⟩
theorem back_map (l : List (List UInt8)) : (l.map (fun s => (⟨s.toArray⟩ : ByteArray))).map (·.data.toList) = l := by
  induction l with
  | nil => rfl
  | cons x l ih => rw [List.map_cons, List.map_cons, ih]
theorem join_some {H : DH} {loc i n c : Nat} {ex ro : Bool} {rs : List (List DV)} {l : List (List UInt8)} {sep : List UInt8} (ho : H.obj loc = some (.rows ro 1 rs)) (hl : (rs.drop i).take n = l.map fun s => [DV.str s]) (hn : l.length = n) (h0 : 0 < n) (hm : n ≤ 1000000) (hlen : (joinF l sep).length ≤ 4294967296)
    {ρ : Rho} {w : World} (ha : Agree ρ H w) {v : Value} (hv : VR ρ (.sl (some (loc, i, 1)) n c ex) v) :
    Calls Tryd.prog 60 #[v, .string ⟨sep.toArray⟩] w fun e w' => e = .returned (.string ⟨(joinF l sep).toArray⟩) ∧ Moves ρ H w ρ H w' := by
  simp only [VR] at hv
  obtain ⟨pl, a, c', hp, hz, rfl, h1, h2, h3, h4, h5⟩ := hv
  obtain ⟨pl', hp', ho'⟩ := ha.obj loc _ ho
  rw [hp] at hp'; cases hp'
  have hb := ha.lies _ _ hp
  obtain rfl := h5.resolve_left (by omega)
  have e : pl.addr i 0 = ⟨pl.block, pl.off + i, none⟩ := by unfold Pl.addr; rw [hz]; simp
  rw [e]
  obtain ⟨hz', hlen', hrows, _⟩ := ho'
  obtain ⟨xs, hxs⟩ : ∃ xs : List ByteArray, l.map (fun s => (⟨s.toArray⟩ : ByteArray)) = xs := ⟨_, rfl⟩
  have hxl : xs.length = n := by rw [← hxs, List.length_map, hn]
  have hback : xs.map (·.data.toList) = l := by rw [← hxs]; exact back_map l
  have hcells : ∀ (j : Nat) x, xs[j]? = some x → w.cell? ⟨pl.block, pl.off + i + j, none⟩ = some (.string x) := by
    intro j x hx
    rw [← hxs, List.getElem?_map] at hx
    cases hlj : l[j]? with
    | none => rw [hlj] at hx; cases hx
    | some s =>
      rw [hlj] at hx
      cases hx
      have hrow : rs[i + j]? = some [DV.str s] := by
        have h := congrArg (fun z => z[j]?) hl
        simp only [List.getElem?_take, List.getElem?_drop, List.getElem?_map, hlj] at h
        have hj := (List.getElem?_eq_some_iff.mp hlj).1
        rw [if_pos (by omega)] at h
        exact h
      obtain ⟨_, cc, hc, hvr⟩ := (hrows _ _ hrow).2 0 _ rfl
      rw [VR_str_iff] at hvr
      subst hvr
      rw [cell?_eq, show pl.off + i + j = pl.off + (i + j) * 1 + 0 by omega]
      exact hc
  have hcon := Any.strings_Join Tryd.lays156 Tryd.bextra156 pl.block (pl.off + i) c' xs ⟨sep.toArray⟩ w hcells hb (by omega) (by omega) (by rw [hback]; show (joinF l sep).length ≤ _; omega)
  rw [hxl] at hcon
  refine Calls.mono (P := Tryd.prog) (f := 60) hcon ?_
  rintro e w' ⟨he, hbel⟩
  refine ⟨?_, moves_below ha hbel⟩
  rw [he, hback]
  rfl
theorem join60_ok : ExtSound Tryd.prog gJoin 60 := by
  intro args H r H' h ρ w vs ha hv
  unfold gJoin at h
  split at h
  · rename_i p n c ex sep
    simp only [VRs] at hv
    obtain ⟨v, r1, e1, h1, u, r2, e2, h2, e3⟩ := hv
    subst e2 e3
    have hvs : vs = #[v, u] := by rw [← Array.toArray_toList (xs := vs), e1]
    rw [VR_str_iff] at h2
    subst h2 hvs
    split at h
    · rename_i h0
      subst h0
      cases h
      refine callOk_of_calls Tryd.func60 (by kernel_rfl) rfl ((join_none ha h1).mono fun e w' he => ?_)
      obtain ⟨rfl, hmv⟩ := he
      exact ⟨ρ, VR_str_iff.mpr rfl, hmv⟩
    · rename_i h0
      split at h
      · rename_i loc i z
        split at h
        · rename_i ro sz rs ho
          split at h
          · rename_i hc
            obtain ⟨rfl, rfl, hm, hlen⟩ := hc
            split at h
            · rename_i l hl
              split at h
              · rename_i hj
                cases h
                have hl' := map_strsL hl
                have hn : l.length = n := by
                  have := congrArg List.length hl'
                  simp only [List.length_take, List.length_drop, List.length_map] at this
                  omega
                refine callOk_of_calls Tryd.func60 (by kernel_rfl) rfl ((join_some ho hl' hn (by omega) hm hj ha h1).mono fun e w' he => ?_)
                obtain ⟨rfl, hmv⟩ := he
                exact ⟨ρ, VR_str_iff.mpr rfl, hmv⟩
              · cases h
            · cases h
          · cases h
        · cases h
      · cases h
  · cases h
noncomputable def E6 : List (FuncId × G) := [(60, gJoin), (83, gNum), (96, gRead), (22, gLive), (106, gSet), (71, gUnits)]
noncomputable def X6 : Ext := Xof L E6
theorem up36 : ExtLe X3 X6 := extLe_more (M := []) (T := [(60, gJoin)]) (E := E3) (by decide +kernel)
theorem join60 {H : DH} {p : Option (Nat × Nat × Nat)} {c : Nat} {ex : Bool} {l : List (List UInt8)} {sep : List UInt8} {K : DV → DH → Prop} (hs : Sl H 1 (l.map fun s => [DV.str s]) p) (hm : l.length ≤ 1000000) (hlen : (joinF l sep).length ≤ 4294967296) (hK : K (.str (joinF l sep)) H) : CallWp Tryd.prog X6 60 [.sl p l.length c ex, .str sep] H K := by
  by_cases h0 : l.length = 0
  · obtain rfl : l = [] := List.length_eq_zero_iff.mp h0
    exact call_table (g := gJoin) rfl (r := .str []) (H' := H) rfl hK
  · cases hs with
    | nil h => exact absurd (by simpa using congrArg List.length h) h0
    | @«at» loc i ro rs h1 h2 h3 h4 =>
      rw [List.length_map] at h3 h4
      refine call_table (g := gJoin) rfl (r := .str (joinF l sep)) (H' := H) ?_ hK
      simp only [gJoin]
      rw [if_neg h0]
      simp only [h2]
      rw [if_pos ⟨trivial, trivial, hm, h3⟩, h4, strsL_map]
      simp only
      rw [if_pos hlen]
end Go.Det.C

/- The cutter: a piece ends. -/
namespace Go.Det.C
open Go Go.Det Go.Proofs
set_option maxRecDepth 4000
set_option maxHeartbeats 4000000
set_option linter.unusedVariables false
set_option linter.unusedSimpArgs false
theorem at_app {b : Nat} {o : DObj} {pre l : List (Nat × DObj)} (h : At b o l) : At b o (pre ++ l) := by
  induction pre with
  | nil => exact h
  | cons x pre ih => exact .there ih
def isLet (n : Int) : Bool := decide (97 ≤ n) && decide (n ≤ 122)
def isDgt (n : Int) : Bool := decide (48 ≤ n) && decide (n ≤ 57)
theorem letter62 (n : Int) (H : DH) : CallWp Tryd.prog X3 62 [.int .i32 n] H (fun r H' => r = .bool (isLet n) ∧ H' = H) := by
  unfold isLet
  cases h1 : decide (97 ≤ n)
  · skip
    refine enter rfl Tryd.func62 rfl Tryd.ntmps62 rfl ?_
    dsimp only [List.cons_append, List.nil_append, List.length_cons, List.length_nil, List.replicate_succ, List.replicate_zero, Nat.reduceAdd, Nat.reduceSub]
    repeat' (first
      | dsimp only [putD, DV.cells, DH.new_next, DH.set_next, List.length_cons, List.length_nil, Nat.reduceAdd, List.set_cons_zero, List.set_cons_succ, getD_zero, getD_succ, fieldAt_zero, fieldAt_succ, thenD, blockD, retR]
      | apply dwp_seq
      | apply dwp_region
      | apply ops_nil
      | (apply ops_plain; (· exact rfl))
      | (apply ops_off1; (· exact rfl); (· exact rfl); (· (first | with_reducible assumption | with_reducible rfl | decide)))
      | (apply op_pick_f; (· exact rfl); (· exact rfl); (· (first | with_reducible assumption | with_reducible rfl | decide)); (· exact rfl))
      | (apply op_at; (· exact rfl))
      | apply dwp_ret
      | (refine ⟨_, rfl, ?_⟩)
      | fail)
    exact ⟨rfl, rfl⟩
  · skip
    refine enter rfl Tryd.func62 rfl Tryd.ntmps62 rfl ?_
    dsimp only [List.cons_append, List.nil_append, List.length_cons, List.length_nil, List.replicate_succ, List.replicate_zero, Nat.reduceAdd, Nat.reduceSub]
    repeat' (first
      | dsimp only [putD, DV.cells, DH.new_next, DH.set_next, List.length_cons, List.length_nil, Nat.reduceAdd, List.set_cons_zero, List.set_cons_succ, getD_zero, getD_succ, fieldAt_zero, fieldAt_succ, thenD, blockD, retR]
      | apply dwp_seq
      | apply dwp_region
      | apply ops_nil
      | (apply ops_plain; (· exact rfl))
      | (apply ops_on; (· exact rfl); (· exact rfl); (· (first | with_reducible assumption | with_reducible rfl | decide)))
      | (apply op_pick_t; (· exact rfl); (· exact rfl); (· (first | with_reducible assumption | with_reducible rfl | decide)); (· exact rfl))
      | (apply op_at; (· exact rfl))
      | apply dwp_ret
      | (refine ⟨_, rfl, ?_⟩)
      | fail)
    exact ⟨rfl, rfl⟩
theorem digit63 (n : Int) (H : DH) : CallWp Tryd.prog X3 63 [.int .i32 n] H (fun r H' => r = .bool (isDgt n) ∧ H' = H) := by
  unfold isDgt
  cases h1 : decide (48 ≤ n)
  · skip
    refine enter rfl Tryd.func63 rfl Tryd.ntmps63 rfl ?_
    dsimp only [List.cons_append, List.nil_append, List.length_cons, List.length_nil, List.replicate_succ, List.replicate_zero, Nat.reduceAdd, Nat.reduceSub]
    repeat' (first
      | dsimp only [putD, DV.cells, DH.new_next, DH.set_next, List.length_cons, List.length_nil, Nat.reduceAdd, List.set_cons_zero, List.set_cons_succ, getD_zero, getD_succ, fieldAt_zero, fieldAt_succ, thenD, blockD, retR]
      | apply dwp_seq
      | apply dwp_region
      | apply ops_nil
      | (apply ops_plain; (· exact rfl))
      | (apply ops_off1; (· exact rfl); (· exact rfl); (· (first | with_reducible assumption | with_reducible rfl | decide)))
      | (apply op_pick_f; (· exact rfl); (· exact rfl); (· (first | with_reducible assumption | with_reducible rfl | decide)); (· exact rfl))
      | (apply op_at; (· exact rfl))
      | apply dwp_ret
      | (refine ⟨_, rfl, ?_⟩)
      | fail)
    exact ⟨rfl, rfl⟩
  · skip
    refine enter rfl Tryd.func63 rfl Tryd.ntmps63 rfl ?_
    dsimp only [List.cons_append, List.nil_append, List.length_cons, List.length_nil, List.replicate_succ, List.replicate_zero, Nat.reduceAdd, Nat.reduceSub]
    repeat' (first
      | dsimp only [putD, DV.cells, DH.new_next, DH.set_next, List.length_cons, List.length_nil, Nat.reduceAdd, List.set_cons_zero, List.set_cons_succ, getD_zero, getD_succ, fieldAt_zero, fieldAt_succ, thenD, blockD, retR]
      | apply dwp_seq
      | apply dwp_region
      | apply ops_nil
      | (apply ops_plain; (· exact rfl))
      | (apply ops_on; (· exact rfl); (· exact rfl); (· (first | with_reducible assumption | with_reducible rfl | decide)))
      | (apply op_pick_t; (· exact rfl); (· exact rfl); (· (first | with_reducible assumption | with_reducible rfl | decide)); (· exact rfl))
      | (apply op_at; (· exact rfl))
      | apply dwp_ret
      | (refine ⟨_, rfl, ?_⟩)
      | fail)
    exact ⟨rfl, rfl⟩
theorem op_cut_s {P : Program} {X : Ext} {o : Oper} {env : List DV} {K : DV → DH → Prop} {H : DH} {t e : TypeId} {z : Nat} {x hi : Operand} {v : DV} {R : List (List DV)} {bx : List (Nat × DObj)} {j : IntKind} (ho : o.op = .slice t x none (some hi) none) (hx : evalO env x = some v) (hhi : evalO env hi = some (.int j 0)) (hu : P.underlying t = some (.slice e)) (hs : sizeT P e = some z)
    (hown : Own1 z R v bx) (hk : ∀ v' : Sv, Own1 z [] v'.dv bx → K v'.dv H) : OpWp P X o env H K :=
  op_cut_own ho hx hhi hu hs hown fun v' h => by
    obtain ⟨w, rfl⟩ := own_sv h
    exact hk w h
def Cu.cut (c : Cu) : Cu := { c with piece := [] }
noncomputable def Cu.fin (c : Cu) : Cu := if c.piece = [] then c.cut
  else if isLet ((c.piece.headD 0).toNat) = false then (if (numF c.piece).e = 0 then c.cut else c.cut.fail c.at' (numF c.piece).e).add ⟨2, c.piece, (numF c.piece).n, (numF c.piece).t⟩ c.at'
  else if 16 < c.piece.length then c.cut.fail c.at' 6 else c.cut.add ⟨1, c.piece, 0, false⟩ c.at'
section
variable {A H : DH} {bc : Nat} {c : Cu} {rest : List (Nat × DObj)} {fs : List (DH → Prop)} {K : DV → DH → Prop}
theorem Rep.of1 {l : Nat × DObj} {s1 s2 s3 : Sv} {x1 x2 x3 : List (Nat × DObj)} (o1 : Own1 4 (c.toks.map Tok.row) s1.dv x1) (o2 : Own1 2 (c.places.map placeRow) s2.dv x2) (o3 : Own1 1 (rowsB c.piece) s3.dv x3)
    (hB : Bx A H (l :: (bc, .rows false 9 [c.row s1 s2 s3]) :: (x1 ++ (x2 ++ (x3 ++ rest)))) fs) : Rep A H bc c (l :: rest) fs := by
  refine ⟨s1, s2, s3, x1, x2, x3, o1, o2, o3, hB.perm ?_⟩
  refine (List.Perm.swap _ _ _).trans (List.Perm.cons _ ?_)
  refine List.perm_middle.symm.trans (List.Perm.append_left _ ?_)
  refine List.perm_middle.symm.trans (List.Perm.append_left _ ?_)
  exact List.perm_middle.symm
theorem Rep.sub {rest' : List (Nat × DObj)} (h : Rep A H bc c rest fs) (k : rest'.Sublist rest) : Rep A H bc c rest' fs := by
  obtain ⟨s1, s2, s3, x1, x2, x3, o1, o2, o3, hB⟩ := h.ex
  exact ⟨s1, s2, s3, x1, x2, x3, o1, o2, o3, hB.sub (((k.append_left _).append_left _).append_left _ |>.cons_cons _)⟩
theorem wrap_u8 (x : UInt8) : IntKind.i32.wrap (x.toNat : Int) = (x.toNat : Int) := wrapR (by have := x.toNat_lt; omega)
theorem end54 (h1 : c.toks.length + 1 ≤ 1000000) (h2 : c.places.length + 1 ≤ 1000000) (h3 : c.piece.length ≤ 65536) (hR : Rep A H bc c rest fs) (hk : ∀ r H', Rep A H' bc c.fin rest fs → K r H') : CallWp Tryd.prog X3 54 [.ptr (some (bc, 0, 0))] H K := by
  obtain ⟨toks, places, piece, ⟨a1, a2⟩, remark, ⟨w1, w2⟩, e⟩ := c
  obtain ⟨s1, s2, s3, x1, x2, x3, o1, o2, o3, hB⟩ := hR.ex
  dsimp only at h1 h2 h3 hk o1 o2 o3 hB
  cases piece with
  | nil =>
    have ef : Cu.fin ⟨toks, places, [], (a1, a2), remark, (w1, w2), e⟩ = ⟨toks, places, [], (a1, a2), remark, (w1, w2), e⟩ := rfl
    rw [ef] at hk
    have hp : (([] : List UInt8) == []) = true := rfl
    refine enter rfl Tryd.func54 rfl Tryd.ntmps54 rfl ?_
    dsimp only [List.cons_append, List.nil_append, List.length_cons, List.length_nil, List.replicate_succ, List.replicate_zero, Nat.reduceAdd, Nat.reduceSub]
    repeat' (first
      | dsimp only [putD, DV.cells, DH.new_next, DH.set_next, List.length_cons, List.length_nil, Nat.reduceAdd, List.set_cons_zero, List.set_cons_succ, getD_zero, getD_succ, fieldAt_zero, fieldAt_succ, thenD, blockD, retR]
      | apply dwp_seq
      | apply dwp_region
      | apply ops_nil
      | (apply ops_plain; (· exact rfl))
      | (apply op_str_own; (· exact rfl); (· exact rfl); (· exact rfl); (· exact rfl); (· exact rfl); (· exact o3); (· assumption); (· (repeat (first | with_reducible exact Ctx.here | with_reducible apply Ctx.cons | with_reducible apply Ctx.app))))
      | (apply op_cut_s; (· exact rfl); (· exact rfl); (· exact rfl); (· exact rfl); (· exact rfl); (· exact o3); intro t3 q3)
      | (apply bx_load0; (· exact rfl); (· exact rfl); (· assumption); (· (repeat (first | with_reducible exact At.here | with_reducible apply At.there | with_reducible apply at_app))); (· (first | exact part57 _ _ _ _ | exact part49 _ _ | exact part49a _ _ _ _ _ _ _ _ _ | exact part49w _ _ _ _ _ _ _ _ _ | exact rfl)))
      | (apply bx_store1; (· exact rfl); (· exact rfl); (· exact rfl); (· assumption); (· (first | (dsimp only [putD, DV.cells, DH.new_next, DH.set_next, List.length_cons, List.length_nil, Nat.reduceAdd, List.set_cons_zero, List.set_cons_succ, getD_zero, getD_succ, fieldAt_zero, fieldAt_succ, thenD, blockD, retR, Sv.cells]; done) | (dsimp only [putD, DV.cells, DH.new_next, DH.set_next, List.length_cons, List.length_nil, Nat.reduceAdd, List.set_cons_zero, List.set_cons_succ, getD_zero, getD_succ, fieldAt_zero, fieldAt_succ, thenD, blockD, retR, Sv.cells]; exact rfl) | exact rfl)); (· (repeat (first | with_reducible exact At.here | with_reducible apply At.there | with_reducible apply at_app))); (· (first | (dsimp only [splice, List.take_zero, List.take_succ_cons, List.length_cons, List.length_nil, Nat.reduceAdd, Nat.zero_add, List.drop_zero, List.drop_succ_cons, List.drop_nil, List.nil_append, List.cons_append, List.append_nil, List.take_nil]; done) | (dsimp only [splice, List.take_zero, List.take_succ_cons, List.length_cons, List.length_nil, Nat.reduceAdd, Nat.zero_add, List.drop_zero, List.drop_succ_cons, List.drop_nil, List.nil_append, List.cons_append, List.append_nil, List.take_nil]; exact rfl) | exact rfl)); (· (repeat (first | with_reducible exact Upd.here | with_reducible apply Upd.there))); (· exact Nat.le_of_ble_eq_true rfl); (· exact rfl); (· exact rfl); (· exact rfl); intro H1 hB)
      | (apply op_at; (· exact rfl))
      | (apply dwp_cond_t; (· exact rfl); (· (first | with_reducible assumption | with_reducible rfl | decide)))
      | apply dwp_block
      | apply dwp_skip
      | (refine ⟨_, rfl, ?_⟩)
      | fail)
    exact hk _ _ ⟨s1, s2, t3, x1, x2, x3, o1, o2, q3, hB⟩
  | cons x t =>
    have hp : (x :: t == []) = false := rfl
    have hwx := wrap_u8 x
    cases hl : isLet (x.toNat : Int) with
    | false =>
      obtain ⟨nf, hnf⟩ : ∃ y, numF (x :: t) = y := ⟨_, rfl⟩
      cases he : (nf.e != 0) with
      | false =>
        have he' : nf.e = 0 := by simpa using he
        have ef : Cu.fin ⟨toks, places, x :: t, (a1, a2), remark, (w1, w2), e⟩ = Cu.add ⟨toks, places, [], (a1, a2), remark, (w1, w2), e⟩ ⟨2, x :: t, nf.n, nf.t⟩ (a1, a2) := by
          unfold Cu.fin; simp [hl, hnf, he', Cu.cut]
        rw [ef] at hk
        refine enter rfl Tryd.func54 rfl Tryd.ntmps54 rfl ?_
        dsimp only [List.cons_append, List.nil_append, List.length_cons, List.length_nil, List.replicate_succ, List.replicate_zero, Nat.reduceAdd, Nat.reduceSub]
        repeat' (first
          | dsimp only [putD, DV.cells, DH.new_next, DH.set_next, List.length_cons, List.length_nil, Nat.reduceAdd, List.set_cons_zero, List.set_cons_succ, getD_zero, getD_succ, fieldAt_zero, fieldAt_succ, thenD, blockD, retR]
          | apply dwp_seq
          | apply dwp_region
          | apply ops_nil
          | (apply ops_plain; (· exact rfl))
          | (apply op_call; (· exact rfl); (· exact rfl); (· exact rfl); (refine (letter62 _ _).mono ?_; rintro r H' ⟨rfl, rfl⟩; rw [hl]))
          | (apply op_call; (· exact rfl); (· exact rfl); (· exact rfl); (refine (num83_3 _ h3 _).mono ?_; rintro r H' ⟨rfl, rfl⟩; rw [hnf]))
          | (apply op_call; (· exact rfl); (· exact rfl); (· exact rfl); (apply add84 (c := ⟨toks, places, [], (a1, a2), remark, (w1, w2), e⟩) (t := ⟨2, x :: t, nf.n, nf.t⟩); (· exact Nat.le_of_succ_le h1); (· exact Nat.le_of_succ_le h2); (· exact Rep.of1 (c := ⟨toks, places, [], (a1, a2), remark, (w1, w2), e⟩) o1 o2 q3 hB); intro r1 H1 hR1))
          | (apply op_str_own; (· exact rfl); (· exact rfl); (· exact rfl); (· exact rfl); (· exact rfl); (· exact o3); (· assumption); (· (repeat (first | with_reducible exact Ctx.here | with_reducible apply Ctx.cons | with_reducible apply Ctx.app))))
          | (apply op_cut_s; (· exact rfl); (· exact rfl); (· exact rfl); (· exact rfl); (· exact rfl); (· exact o3); intro t3 q3)
          | (apply op_at; (· exact opD_strIndex (b := x) rfl rfl rfl rfl (by decide) rfl))
          | (apply op_told; (· exact rfl); (· exact congrArg (DV.int _) hwx))
          | (apply bx_load0; (· exact rfl); (· exact rfl); (· assumption); (· (repeat (first | with_reducible exact At.here | with_reducible apply At.there | with_reducible apply at_app))); (· (first | exact part57 _ _ _ _ | exact part49 _ _ | exact part49a _ _ _ _ _ _ _ _ _ | exact part49w _ _ _ _ _ _ _ _ _ | exact rfl)))
          | (apply bx_store0; (· exact rfl); (· exact rfl); (· exact rfl); (· assumption); (· (first | (dsimp only [putD, DV.cells, DH.new_next, DH.set_next, List.length_cons, List.length_nil, Nat.reduceAdd, List.set_cons_zero, List.set_cons_succ, getD_zero, getD_succ, fieldAt_zero, fieldAt_succ, thenD, blockD, retR, Sv.cells]; done) | (dsimp only [putD, DV.cells, DH.new_next, DH.set_next, List.length_cons, List.length_nil, Nat.reduceAdd, List.set_cons_zero, List.set_cons_succ, getD_zero, getD_succ, fieldAt_zero, fieldAt_succ, thenD, blockD, retR, Sv.cells]; exact rfl) | exact rfl)); (· (repeat (first | with_reducible exact Upd.here | with_reducible apply Upd.there))); (· exact rfl); (· exact rfl); (· exact rfl); (· exact rfl); intro H1 hB)
          | (apply bx_store1; (· exact rfl); (· exact rfl); (· exact rfl); (· assumption); (· (first | (dsimp only [putD, DV.cells, DH.new_next, DH.set_next, List.length_cons, List.length_nil, Nat.reduceAdd, List.set_cons_zero, List.set_cons_succ, getD_zero, getD_succ, fieldAt_zero, fieldAt_succ, thenD, blockD, retR, Sv.cells]; done) | (dsimp only [putD, DV.cells, DH.new_next, DH.set_next, List.length_cons, List.length_nil, Nat.reduceAdd, List.set_cons_zero, List.set_cons_succ, getD_zero, getD_succ, fieldAt_zero, fieldAt_succ, thenD, blockD, retR, Sv.cells]; exact rfl) | exact rfl)); (· (repeat (first | with_reducible exact At.here | with_reducible apply At.there | with_reducible apply at_app))); (· (first | (dsimp only [splice, List.take_zero, List.take_succ_cons, List.length_cons, List.length_nil, Nat.reduceAdd, Nat.zero_add, List.drop_zero, List.drop_succ_cons, List.drop_nil, List.nil_append, List.cons_append, List.append_nil, List.take_nil]; done) | (dsimp only [splice, List.take_zero, List.take_succ_cons, List.length_cons, List.length_nil, Nat.reduceAdd, Nat.zero_add, List.drop_zero, List.drop_succ_cons, List.drop_nil, List.nil_append, List.cons_append, List.append_nil, List.take_nil]; exact rfl) | exact rfl)); (· (repeat (first | with_reducible exact Upd.here | with_reducible apply Upd.there))); (· exact Nat.le_of_ble_eq_true rfl); (· exact rfl); (· exact rfl); (· exact rfl); intro H1 hB)
          | (apply bx_alloc; (· exact rfl); (· exact zero57); (· (first | (dsimp only [putD, DV.cells, DH.new_next, DH.set_next, List.length_cons, List.length_nil, Nat.reduceAdd, List.set_cons_zero, List.set_cons_succ, getD_zero, getD_succ, fieldAt_zero, fieldAt_succ, thenD, blockD, retR, Sv.cells]; done) | (dsimp only [putD, DV.cells, DH.new_next, DH.set_next, List.length_cons, List.length_nil, Nat.reduceAdd, List.set_cons_zero, List.set_cons_succ, getD_zero, getD_succ, fieldAt_zero, fieldAt_succ, thenD, blockD, retR, Sv.cells]; exact rfl) | exact rfl)); (· exact rfl); (· exact rfl); (· assumption); intro b1 H1 hB)
          | (apply op_at; (· exact rfl))
          | refine dwp_drawc _ rfl ?_
          | apply drawc_nil
          | (apply drawc_bx_load; (· exact rfl); (· (first | exact wanted_plain rfl | (apply wanted_on; (· exact rfl); (· exact rfl); (· (first | with_reducible assumption | with_reducible rfl | decide))))); (· exact rfl); (· assumption); (· (repeat (first | with_reducible exact At.here | with_reducible apply At.there | with_reducible apply at_app))); (· exact rfl); (· (first | exact part57 _ _ _ _ | exact part49 _ _ | exact part49a _ _ _ _ _ _ _ _ _ | exact part49w _ _ _ _ _ _ _ _ _ | exact rfl)); (· decide +kernel))
          | (apply drawc_pure; (· (first | exact wanted_plain rfl | (apply wanted_on; (· exact rfl); (· exact rfl); (· (first | with_reducible assumption | with_reducible rfl | decide))))); (· exact rfl); (· exact rfl); (· exact rfl))
          | (apply drawc_sync; (· (first | exact wanted_plain rfl | (apply wanted_on; (· exact rfl); (· exact rfl); (· (first | with_reducible assumption | with_reducible rfl | decide))))); (· exact rfl); (· decide +kernel))
          | (apply dwp_cond_t; (· exact rfl); (· (first | with_reducible assumption | with_reducible rfl | decide)))
          | (apply dwp_cond_f; (· exact rfl); (· (first | with_reducible assumption | with_reducible rfl | decide)))
          | apply dwp_block
          | apply dwp_skip
          | (refine ⟨_, rfl, ?_⟩)
          | fail)
        exact hk _ _ (hR1.sub (List.sublist_cons_self _ _))
      | true =>
        have he' : nf.e ≠ 0 := by simpa using he
        have ef : Cu.fin ⟨toks, places, x :: t, (a1, a2), remark, (w1, w2), e⟩ = Cu.add (Cu.fail ⟨toks, places, [], (a1, a2), remark, (w1, w2), e⟩ (a1, a2) nf.e) ⟨2, x :: t, nf.n, nf.t⟩ (a1, a2) := by
          unfold Cu.fin; simp [hl, hnf, he', Cu.cut]
        rw [ef] at hk
        have hf : ∃ c', c' = Cu.fail ⟨toks, places, [], (a1, a2), remark, (w1, w2), e⟩ (a1, a2) nf.e := ⟨_, rfl⟩
        obtain ⟨c', hc'⟩ := hf
        have ht' : c'.toks = toks ∧ c'.places = places ∧ c'.at' = (a1, a2) := by
          rw [hc']; unfold Cu.fail; split <;> exact ⟨rfl, rfl, rfl⟩
        rw [← hc'] at hk
        obtain ⟨toks', places', piece', ⟨b1, b2⟩, remark', ⟨v1, v2⟩, e'⟩ := c'
        dsimp only at ht'
        obtain ⟨rfl, rfl, hab⟩ := ht'
        cases hab
        refine enter rfl Tryd.func54 rfl Tryd.ntmps54 rfl ?_
        dsimp only [List.cons_append, List.nil_append, List.length_cons, List.length_nil, List.replicate_succ, List.replicate_zero, Nat.reduceAdd, Nat.reduceSub]
        repeat' (first
          | dsimp only [putD, DV.cells, DH.new_next, DH.set_next, List.length_cons, List.length_nil, Nat.reduceAdd, List.set_cons_zero, List.set_cons_succ, getD_zero, getD_succ, fieldAt_zero, fieldAt_succ, thenD, blockD, retR]
          | apply dwp_seq
          | apply dwp_region
          | apply ops_nil
          | (apply ops_plain; (· exact rfl))
          | (apply op_call; (· exact rfl); (· exact rfl); (· exact rfl); (refine (letter62 _ _).mono ?_; rintro r H' ⟨rfl, rfl⟩; rw [hl]))
          | (apply op_call; (· exact rfl); (· exact rfl); (· exact rfl); (refine (num83_3 _ h3 _).mono ?_; rintro r H' ⟨rfl, rfl⟩; rw [hnf]))
          | (apply op_call; (· exact rfl); (· exact rfl); (· exact rfl); (apply fail55; (· exact Rep.of1 (c := ⟨toks', places', [], (a1, a2), remark, (w1, w2), e⟩) o1 o2 q3 hB); intro r1 H1 hR1; rw [← hc'] at hR1; obtain ⟨s1, s2, t3, x1, x2, x3, o1, o2, q3, hB⟩ := hR1.ex; dsimp only at o1 o2 q3 hB))
          | (apply op_call; (· exact rfl); (· exact rfl); (· exact rfl); (apply add84 (c := ⟨toks', places', piece', (a1, a2), remark', (v1, v2), e'⟩) (t := ⟨2, x :: t, nf.n, nf.t⟩); (· exact Nat.le_of_succ_le h1); (· exact Nat.le_of_succ_le h2); (· exact ⟨_, _, _, _, _, _, o1, o2, q3, hB⟩); intro r1 H1 hR1))
          | (apply op_str_own; (· exact rfl); (· exact rfl); (· exact rfl); (· exact rfl); (· exact rfl); (· exact o3); (· assumption); (· (repeat (first | with_reducible exact Ctx.here | with_reducible apply Ctx.cons | with_reducible apply Ctx.app))))
          | (apply op_cut_s; (· exact rfl); (· exact rfl); (· exact rfl); (· exact rfl); (· exact rfl); (· exact o3); intro t3 q3)
          | (apply op_at; (· exact opD_strIndex (b := x) rfl rfl rfl rfl (by decide) rfl))
          | (apply op_told; (· exact rfl); (· exact congrArg (DV.int _) hwx))
          | (apply bx_load0; (· exact rfl); (· exact rfl); (· assumption); (· (repeat (first | with_reducible exact At.here | with_reducible apply At.there | with_reducible apply at_app))); (· (first | exact part57 _ _ _ _ | exact part49 _ _ | exact part49a _ _ _ _ _ _ _ _ _ | exact part49w _ _ _ _ _ _ _ _ _ | exact rfl)))
          | (apply bx_store0; (· exact rfl); (· exact rfl); (· exact rfl); (· assumption); (· (first | (dsimp only [putD, DV.cells, DH.new_next, DH.set_next, List.length_cons, List.length_nil, Nat.reduceAdd, List.set_cons_zero, List.set_cons_succ, getD_zero, getD_succ, fieldAt_zero, fieldAt_succ, thenD, blockD, retR, Sv.cells]; done) | (dsimp only [putD, DV.cells, DH.new_next, DH.set_next, List.length_cons, List.length_nil, Nat.reduceAdd, List.set_cons_zero, List.set_cons_succ, getD_zero, getD_succ, fieldAt_zero, fieldAt_succ, thenD, blockD, retR, Sv.cells]; exact rfl) | exact rfl)); (· (repeat (first | with_reducible exact Upd.here | with_reducible apply Upd.there))); (· exact rfl); (· exact rfl); (· exact rfl); (· exact rfl); intro H1 hB)
          | (apply bx_store1; (· exact rfl); (· exact rfl); (· exact rfl); (· assumption); (· (first | (dsimp only [putD, DV.cells, DH.new_next, DH.set_next, List.length_cons, List.length_nil, Nat.reduceAdd, List.set_cons_zero, List.set_cons_succ, getD_zero, getD_succ, fieldAt_zero, fieldAt_succ, thenD, blockD, retR, Sv.cells]; done) | (dsimp only [putD, DV.cells, DH.new_next, DH.set_next, List.length_cons, List.length_nil, Nat.reduceAdd, List.set_cons_zero, List.set_cons_succ, getD_zero, getD_succ, fieldAt_zero, fieldAt_succ, thenD, blockD, retR, Sv.cells]; exact rfl) | exact rfl)); (· (repeat (first | with_reducible exact At.here | with_reducible apply At.there | with_reducible apply at_app))); (· (first | (dsimp only [splice, List.take_zero, List.take_succ_cons, List.length_cons, List.length_nil, Nat.reduceAdd, Nat.zero_add, List.drop_zero, List.drop_succ_cons, List.drop_nil, List.nil_append, List.cons_append, List.append_nil, List.take_nil]; done) | (dsimp only [splice, List.take_zero, List.take_succ_cons, List.length_cons, List.length_nil, Nat.reduceAdd, Nat.zero_add, List.drop_zero, List.drop_succ_cons, List.drop_nil, List.nil_append, List.cons_append, List.append_nil, List.take_nil]; exact rfl) | exact rfl)); (· (repeat (first | with_reducible exact Upd.here | with_reducible apply Upd.there))); (· exact Nat.le_of_ble_eq_true rfl); (· exact rfl); (· exact rfl); (· exact rfl); intro H1 hB)
          | (apply bx_alloc; (· exact rfl); (· exact zero57); (· (first | (dsimp only [putD, DV.cells, DH.new_next, DH.set_next, List.length_cons, List.length_nil, Nat.reduceAdd, List.set_cons_zero, List.set_cons_succ, getD_zero, getD_succ, fieldAt_zero, fieldAt_succ, thenD, blockD, retR, Sv.cells]; done) | (dsimp only [putD, DV.cells, DH.new_next, DH.set_next, List.length_cons, List.length_nil, Nat.reduceAdd, List.set_cons_zero, List.set_cons_succ, getD_zero, getD_succ, fieldAt_zero, fieldAt_succ, thenD, blockD, retR, Sv.cells]; exact rfl) | exact rfl)); (· exact rfl); (· exact rfl); (· assumption); intro b1 H1 hB)
          | (apply op_at; (· exact rfl))
          | refine dwp_drawc _ rfl ?_
          | apply drawc_nil
          | (apply drawc_bx_load; (· exact rfl); (· (first | exact wanted_plain rfl | (apply wanted_on; (· exact rfl); (· exact rfl); (· (first | with_reducible assumption | with_reducible rfl | decide))))); (· exact rfl); (· assumption); (· (repeat (first | with_reducible exact At.here | with_reducible apply At.there | with_reducible apply at_app))); (· exact rfl); (· (first | exact part57 _ _ _ _ | exact part49 _ _ | exact part49a _ _ _ _ _ _ _ _ _ | exact part49w _ _ _ _ _ _ _ _ _ | exact rfl)); (· decide +kernel))
          | (apply drawc_pure; (· (first | exact wanted_plain rfl | (apply wanted_on; (· exact rfl); (· exact rfl); (· (first | with_reducible assumption | with_reducible rfl | decide))))); (· exact rfl); (· exact rfl); (· exact rfl))
          | (apply drawc_sync; (· (first | exact wanted_plain rfl | (apply wanted_on; (· exact rfl); (· exact rfl); (· (first | with_reducible assumption | with_reducible rfl | decide))))); (· exact rfl); (· decide +kernel))
          | (apply dwp_cond_t; (· exact rfl); (· (first | with_reducible assumption | with_reducible rfl | decide)))
          | (apply dwp_cond_f; (· exact rfl); (· (first | with_reducible assumption | with_reducible rfl | decide)))
          | apply dwp_block
          | (refine ⟨_, rfl, ?_⟩)
          | fail)
        exact hk _ _ (hR1.sub (List.sublist_cons_self _ _))
    | true =>
      cases hn : decide (((t.length + 1 : Nat) : Int) > 16) with
      | true =>
        have hn' : 16 < t.length + 1 := by simp at hn; omega
        have ef : Cu.fin ⟨toks, places, x :: t, (a1, a2), remark, (w1, w2), e⟩ = Cu.fail ⟨toks, places, [], (a1, a2), remark, (w1, w2), e⟩ (a1, a2) 6 := by
          unfold Cu.fin; simp [hl, hn', Cu.cut]
        rw [ef] at hk
        refine enter rfl Tryd.func54 rfl Tryd.ntmps54 rfl ?_
        dsimp only [List.cons_append, List.nil_append, List.length_cons, List.length_nil, List.replicate_succ, List.replicate_zero, Nat.reduceAdd, Nat.reduceSub]
        repeat' (first
          | dsimp only [putD, DV.cells, DH.new_next, DH.set_next, List.length_cons, List.length_nil, Nat.reduceAdd, List.set_cons_zero, List.set_cons_succ, getD_zero, getD_succ, fieldAt_zero, fieldAt_succ, thenD, blockD, retR]
          | apply dwp_seq
          | apply dwp_region
          | apply ops_nil
          | (apply ops_plain; (· exact rfl))
          | (apply op_call; (· exact rfl); (· exact rfl); (· exact rfl); (refine (letter62 _ _).mono ?_; rintro r H' ⟨rfl, rfl⟩; rw [hl]))
          | (apply op_call; (· exact rfl); (· exact rfl); (· exact rfl); (apply fail55; (· exact (⟨_, _, _, _, _, _, o1, o2, q3, hB⟩ : Rep _ _ _ ⟨toks, places, [], (a1, a2), remark, (w1, w2), e⟩ _ _)); intro r1 H1 hR1))
          | (apply op_str_own; (· exact rfl); (· exact rfl); (· exact rfl); (· exact rfl); (· exact rfl); (· exact o3); (· assumption); (· (repeat (first | with_reducible exact Ctx.here | with_reducible apply Ctx.cons | with_reducible apply Ctx.app))))
          | (apply op_cut_s; (· exact rfl); (· exact rfl); (· exact rfl); (· exact rfl); (· exact rfl); (· exact o3); intro t3 q3)
          | (apply op_at; (· exact opD_strIndex (b := x) rfl rfl rfl rfl (by decide) rfl))
          | (apply op_told; (· exact rfl); (· exact congrArg (DV.int _) hwx))
          | (apply bx_load0; (· exact rfl); (· exact rfl); (· assumption); (· (repeat (first | with_reducible exact At.here | with_reducible apply At.there | with_reducible apply at_app))); (· (first | exact part57 _ _ _ _ | exact part49 _ _ | exact part49a _ _ _ _ _ _ _ _ _ | exact part49w _ _ _ _ _ _ _ _ _ | exact rfl)))
          | (apply bx_store1; (· exact rfl); (· exact rfl); (· exact rfl); (· assumption); (· (first | (dsimp only [putD, DV.cells, DH.new_next, DH.set_next, List.length_cons, List.length_nil, Nat.reduceAdd, List.set_cons_zero, List.set_cons_succ, getD_zero, getD_succ, fieldAt_zero, fieldAt_succ, thenD, blockD, retR, Sv.cells]; done) | (dsimp only [putD, DV.cells, DH.new_next, DH.set_next, List.length_cons, List.length_nil, Nat.reduceAdd, List.set_cons_zero, List.set_cons_succ, getD_zero, getD_succ, fieldAt_zero, fieldAt_succ, thenD, blockD, retR, Sv.cells]; exact rfl) | exact rfl)); (· (repeat (first | with_reducible exact At.here | with_reducible apply At.there | with_reducible apply at_app))); (· (first | (dsimp only [splice, List.take_zero, List.take_succ_cons, List.length_cons, List.length_nil, Nat.reduceAdd, Nat.zero_add, List.drop_zero, List.drop_succ_cons, List.drop_nil, List.nil_append, List.cons_append, List.append_nil, List.take_nil]; done) | (dsimp only [splice, List.take_zero, List.take_succ_cons, List.length_cons, List.length_nil, Nat.reduceAdd, Nat.zero_add, List.drop_zero, List.drop_succ_cons, List.drop_nil, List.nil_append, List.cons_append, List.append_nil, List.take_nil]; exact rfl) | exact rfl)); (· (repeat (first | with_reducible exact Upd.here | with_reducible apply Upd.there))); (· exact Nat.le_of_ble_eq_true rfl); (· exact rfl); (· exact rfl); (· exact rfl); intro H1 hB)
          | (apply op_at; (· exact rfl))
          | (apply dwp_cond_t; (· exact rfl); (· (first | with_reducible assumption | with_reducible rfl | decide)))
          | (apply dwp_cond_f; (· exact rfl); (· (first | with_reducible assumption | with_reducible rfl | decide)))
          | apply dwp_block
          | (refine ⟨_, rfl, ?_⟩)
          | fail)
        exact hk _ _ hR1
      | false =>
        have hn' : ¬ 16 < t.length + 1 := by simp at hn; omega
        have ef : Cu.fin ⟨toks, places, x :: t, (a1, a2), remark, (w1, w2), e⟩ = Cu.add ⟨toks, places, [], (a1, a2), remark, (w1, w2), e⟩ ⟨1, x :: t, 0, false⟩ (a1, a2) := by
          unfold Cu.fin; simp [hl, Nat.not_lt.mp hn', Cu.cut]
          omega
        rw [ef] at hk
        refine enter rfl Tryd.func54 rfl Tryd.ntmps54 rfl ?_
        dsimp only [List.cons_append, List.nil_append, List.length_cons, List.length_nil, List.replicate_succ, List.replicate_zero, Nat.reduceAdd, Nat.reduceSub]
        repeat' (first
          | dsimp only [putD, DV.cells, DH.new_next, DH.set_next, List.length_cons, List.length_nil, Nat.reduceAdd, List.set_cons_zero, List.set_cons_succ, getD_zero, getD_succ, fieldAt_zero, fieldAt_succ, thenD, blockD, retR]
          | apply dwp_seq
          | apply dwp_region
          | apply ops_nil
          | (apply ops_plain; (· exact rfl))
          | (apply op_call; (· exact rfl); (· exact rfl); (· exact rfl); (refine (letter62 _ _).mono ?_; rintro r H' ⟨rfl, rfl⟩; rw [hl]))
          | (apply op_call; (· exact rfl); (· exact rfl); (· exact rfl); (apply add84 (c := ⟨toks, places, [], (a1, a2), remark, (w1, w2), e⟩) (t := ⟨1, x :: t, 0, false⟩); (· exact Nat.le_of_succ_le h1); (· exact Nat.le_of_succ_le h2); (· exact (⟨_, _, _, _, _, _, o1, o2, q3, hB⟩ : Rep _ _ _ ⟨toks, places, [], (a1, a2), remark, (w1, w2), e⟩ _ _)); intro r1 H1 hR1))
          | (apply op_str_own; (· exact rfl); (· exact rfl); (· exact rfl); (· exact rfl); (· exact rfl); (· exact o3); (· assumption); (· (repeat (first | with_reducible exact Ctx.here | with_reducible apply Ctx.cons | with_reducible apply Ctx.app))))
          | (apply op_cut_s; (· exact rfl); (· exact rfl); (· exact rfl); (· exact rfl); (· exact rfl); (· exact o3); intro t3 q3)
          | (apply op_at; (· exact opD_strIndex (b := x) rfl rfl rfl rfl (by decide) rfl))
          | (apply op_told; (· exact rfl); (· exact congrArg (DV.int _) hwx))
          | (apply bx_load0; (· exact rfl); (· exact rfl); (· assumption); (· (repeat (first | with_reducible exact At.here | with_reducible apply At.there | with_reducible apply at_app))); (· (first | exact part57 _ _ _ _ | exact part49 _ _ | exact part49a _ _ _ _ _ _ _ _ _ | exact part49w _ _ _ _ _ _ _ _ _ | exact rfl)))
          | (apply bx_store1; (· exact rfl); (· exact rfl); (· exact rfl); (· assumption); (· (first | (dsimp only [putD, DV.cells, DH.new_next, DH.set_next, List.length_cons, List.length_nil, Nat.reduceAdd, List.set_cons_zero, List.set_cons_succ, getD_zero, getD_succ, fieldAt_zero, fieldAt_succ, thenD, blockD, retR, Sv.cells]; done) | (dsimp only [putD, DV.cells, DH.new_next, DH.set_next, List.length_cons, List.length_nil, Nat.reduceAdd, List.set_cons_zero, List.set_cons_succ, getD_zero, getD_succ, fieldAt_zero, fieldAt_succ, thenD, blockD, retR, Sv.cells]; exact rfl) | exact rfl)); (· (repeat (first | with_reducible exact At.here | with_reducible apply At.there | with_reducible apply at_app))); (· (first | (dsimp only [splice, List.take_zero, List.take_succ_cons, List.length_cons, List.length_nil, Nat.reduceAdd, Nat.zero_add, List.drop_zero, List.drop_succ_cons, List.drop_nil, List.nil_append, List.cons_append, List.append_nil, List.take_nil]; done) | (dsimp only [splice, List.take_zero, List.take_succ_cons, List.length_cons, List.length_nil, Nat.reduceAdd, Nat.zero_add, List.drop_zero, List.drop_succ_cons, List.drop_nil, List.nil_append, List.cons_append, List.append_nil, List.take_nil]; exact rfl) | exact rfl)); (· (repeat (first | with_reducible exact Upd.here | with_reducible apply Upd.there))); (· exact Nat.le_of_ble_eq_true rfl); (· exact rfl); (· exact rfl); (· exact rfl); intro H1 hB)
          | (apply op_at; (· exact rfl))
          | (apply dwp_cond_f; (· exact rfl); (· (first | with_reducible assumption | with_reducible rfl | decide)))
          | apply dwp_block
          | (refine ⟨_, rfl, ?_⟩)
          | fail)
        exact hk _ _ hR1
end
end Go.Det.C

/- The cutter: a rune is taken; the place behind it. -/
namespace Go.Det.C
open Go Go.Det Go.Proofs
set_option maxRecDepth 4000
set_option maxHeartbeats 4000000
set_option linter.unusedVariables false
set_option linter.unusedSimpArgs false
noncomputable def Cu.take (c : Cu) (p : Int × Int) (r : Int) : Cu :=
  if c.remark = true ∧ r ≠ 10 then c
  else if isLet r = true ∨ isDgt r = true then { c with remark := false, at' := if c.piece = [] then p else c.at', piece := c.piece ++ [UInt8.ofNat r.toNat] }
  else let c1 := Cu.fin { c with remark := false }
    if r = 32 ∨ r = 9 ∨ r = 10 then c1
    else if r = 35 then { c1 with remark := true }
    else if r = 59 ∨ r = 123 ∨ r = 125 then c1.add ⟨3, [UInt8.ofNat r.toNat], 0, false⟩ p
    else if r = 45 then { c1 with piece := c1.piece ++ [45], at' := p }
    else c1.fail p 4
def nextP (p : Int × Int) (r : Int) : Int × Int := if r = 10 then (p.1 + 1, 1) else (p.1, p.2 + 1)
theorem fail_same (c : Cu) (p : Int × Int) (e : Int) : (c.fail p e).toks = c.toks ∧ (c.fail p e).places = c.places ∧ (c.fail p e).piece = c.piece ∧ (c.fail p e).remark = c.remark := by
  unfold Cu.fail; split <;> exact ⟨rfl, rfl, rfl, rfl⟩
theorem fin_len (c : Cu) : c.fin.toks.length ≤ c.toks.length + 1 ∧ c.fin.places.length ≤ c.places.length + 1 ∧ c.fin.piece = [] ∧ c.fin.remark = c.remark := by
  unfold Cu.fin
  split
  · exact ⟨Nat.le_succ _, Nat.le_succ _, rfl, rfl⟩
  · split
    · have h : ∀ d : Cu, d.toks = c.toks → d.places = c.places → d.piece = [] → d.remark = c.remark → ∀ t p, (d.add t p).toks.length ≤ c.toks.length + 1 ∧ (d.add t p).places.length ≤ c.places.length + 1 ∧ (d.add t p).piece = [] ∧ (d.add t p).remark = c.remark := by
        intro d h1 h2 h3 h4 t p
        unfold Cu.add
        simp [h1, h2, h3, h4]
      split
      · exact h c.cut rfl rfl rfl rfl _ _
      · obtain ⟨k1, k2, k3, k4⟩ := fail_same c.cut c.at' (numF c.piece).e
        exact h _ k1 k2 k3 k4 _ _
    · split
      · obtain ⟨k1, k2, k3, k4⟩ := fail_same c.cut c.at' 6
        rw [k1, k2, k3, k4]
        exact ⟨Nat.le_succ _, Nat.le_succ _, rfl, rfl⟩
      · unfold Cu.add Cu.cut
        simp
theorem own_len {z : Nat} {R : List (List DV)} {s : Sv} {bx : List (Nat × DObj)} (h : Own1 z R s.dv bx) : s.n = R.length := by
  obtain ⟨p, n, c, ex⟩ := s
  unfold Sv.dv at h
  dsimp only at h ⊢
  generalize hd : DV.sl p n c ex = d at h
  cases h with
  | nil h => cases hd; subst h; rfl
  | «at» h1 h2 h3 => cases hd; rfl
section
variable {A H : DH} {bc : Nat} {c : Cu} {rest : List (Nat × DObj)} {fs : List (DH → Prop)} {K : DV → DH → Prop}
theorem take56 {p1 p2 r : Int} (hr : 0 ≤ r) (h1 : c.toks.length + 1 ≤ 900000) (h2 : c.places.length + 1 ≤ 900000) (h3 : c.piece.length ≤ 65536) (hR : Rep A H bc c rest fs) (hk : ∀ r' H', Rep A H' bc (c.take (p1, p2) r) rest fs → K r' H') : CallWp Tryd.prog X3 56 [.ptr (some (bc, 0, 0)), .agg [.int .i64 p1, .int .i64 p2], .int .i32 r] H K := by
  obtain ⟨toks, places, piece, ⟨a1, a2⟩, remark, ⟨w1, w2⟩, e⟩ := c
  obtain ⟨s1, s2, s3, x1, x2, x3, o1, o2, o3, hB⟩ := hR.ex
  dsimp only at h1 h2 h3 hk o1 o2 o3 hB
  by_cases hA : remark = true ∧ r ≠ 10
  · obtain ⟨rfl, hA2⟩ := hA
    have hA3 : (r != 10) = true := by simpa using hA2
    have ef : Cu.take ⟨toks, places, piece, (a1, a2), true, (w1, w2), e⟩ (p1, p2) r = ⟨toks, places, piece, (a1, a2), true, (w1, w2), e⟩ := by unfold Cu.take; rw [if_pos ⟨rfl, hA2⟩]
    rw [ef] at hk
    refine enter rfl Tryd.func56 rfl Tryd.ntmps56 rfl ?_
    dsimp only [List.cons_append, List.nil_append, List.length_cons, List.length_nil, List.replicate_succ, List.replicate_zero, Nat.reduceAdd, Nat.reduceSub]
    repeat' (first
      | dsimp only [putD, DV.cells, DH.new_next, DH.set_next, List.length_cons, List.length_nil, Nat.reduceAdd, List.set_cons_zero, List.set_cons_succ, getD_zero, getD_succ, fieldAt_zero, fieldAt_succ, thenD, blockD, retR]
      | apply dwp_seq
      | apply dwp_region
      | apply ops_nil
      | (apply ops_plain; (· exact rfl))
      | (apply ops_on; (· exact rfl); (· exact rfl); (· (first | with_reducible assumption | with_reducible rfl | decide)))
      | (apply op_pick_t; (· exact rfl); (· exact rfl); (· (first | with_reducible assumption | with_reducible rfl | decide)); (· exact rfl))
      | (apply bx_load0; (· exact rfl); (· exact rfl); (· assumption); (· (repeat (first | with_reducible exact At.here | with_reducible apply At.there | with_reducible apply at_app))); (· (first | exact part57 _ _ _ _ | exact part49 _ _ | exact part49a _ _ _ _ _ _ _ _ _ | exact part49w _ _ _ _ _ _ _ _ _ | exact rfl)))
      | (apply bx_store1; (· exact rfl); (· exact rfl); (· exact rfl); (· assumption); (· (first | (dsimp only [putD, DV.cells, DH.new_next, DH.set_next, List.length_cons, List.length_nil, Nat.reduceAdd, List.set_cons_zero, List.set_cons_succ, getD_zero, getD_succ, fieldAt_zero, fieldAt_succ, thenD, blockD, retR, Sv.cells]; done) | (dsimp only [putD, DV.cells, DH.new_next, DH.set_next, List.length_cons, List.length_nil, Nat.reduceAdd, List.set_cons_zero, List.set_cons_succ, getD_zero, getD_succ, fieldAt_zero, fieldAt_succ, thenD, blockD, retR, Sv.cells]; exact rfl) | exact rfl)); (· (repeat (first | with_reducible exact At.here | with_reducible apply At.there | with_reducible apply at_app))); (· (first | (dsimp only [splice, List.take_zero, List.take_succ_cons, List.length_cons, List.length_nil, Nat.reduceAdd, Nat.zero_add, List.drop_zero, List.drop_succ_cons, List.drop_nil, List.nil_append, List.cons_append, List.append_nil, List.take_nil]; done) | (dsimp only [splice, List.take_zero, List.take_succ_cons, List.length_cons, List.length_nil, Nat.reduceAdd, Nat.zero_add, List.drop_zero, List.drop_succ_cons, List.drop_nil, List.nil_append, List.cons_append, List.append_nil, List.take_nil]; exact rfl) | exact rfl)); (· (repeat (first | with_reducible exact Upd.here | with_reducible apply Upd.there))); (· exact Nat.le_of_ble_eq_true rfl); (· exact rfl); (· exact rfl); (· exact rfl); intro H1 hB)
      | (apply bx_box; (· exact rfl); (· exact rfl); (· (first | (dsimp only [putD, DV.cells, DH.new_next, DH.set_next, List.length_cons, List.length_nil, Nat.reduceAdd, List.set_cons_zero, List.set_cons_succ, getD_zero, getD_succ, fieldAt_zero, fieldAt_succ, thenD, blockD, retR, Sv.cells]; done) | (dsimp only [putD, DV.cells, DH.new_next, DH.set_next, List.length_cons, List.length_nil, Nat.reduceAdd, List.set_cons_zero, List.set_cons_succ, getD_zero, getD_succ, fieldAt_zero, fieldAt_succ, thenD, blockD, retR, Sv.cells]; exact rfl) | exact rfl)); (· exact rfl); (· exact rfl); (· assumption); intro b1 H1 hB)
      | (apply op_at; (· exact rfl))
      | (apply dwp_cond_t; (· exact rfl); (· (first | with_reducible assumption | with_reducible rfl | decide)))
      | apply dwp_ret
      | (refine ⟨_, rfl, ?_⟩)
      | fail)
    rw [hA3] at hB
    exact hk _ _ ⟨s1, s2, s3, x1, x2, x3, o1, o2, o3, hB.drop1⟩
  · have hA1 : (remark = true ∧ (r != 10) = false) ∨ remark = false := by
      cases remark with
      | false => exact .inr rfl
      | true => exact .inl ⟨rfl, by simpa using hA⟩
    have ef0 : Cu.take ⟨toks, places, piece, (a1, a2), remark, (w1, w2), e⟩ (p1, p2) r = Cu.take ⟨toks, places, piece, (a1, a2), false, (w1, w2), e⟩ (p1, p2) r := by
      unfold Cu.take; rw [if_neg hA]; simp only [Bool.false_eq_true, false_and, if_false]
    rw [ef0] at hk
    refine enter rfl Tryd.func56 rfl Tryd.ntmps56 rfl ?_
    dsimp only [List.cons_append, List.nil_append, List.length_cons, List.length_nil, List.replicate_succ, List.replicate_zero, Nat.reduceAdd, Nat.reduceSub]
    repeat' (first
      | dsimp only [putD, DV.cells, DH.new_next, DH.set_next, List.length_cons, List.length_nil, Nat.reduceAdd, List.set_cons_zero, List.set_cons_succ, getD_zero, getD_succ, fieldAt_zero, fieldAt_succ, thenD, blockD, retR]
      | (refine dwp_cutAt (id := 1) (fun st => ∃ (b4 : Nat) (H1 : DH), ∃ J : Nat → DV, (Bx A H1 ([(b4, .rows false 2 [[.int .i64 p1, .int .i64 p2]]), (bc, .rows false 9 [[s1.dv, s2.dv, s3.dv, .int .i64 a1, .int .i64 a2, .bool false, .int .i64 w1, .int .i64 w2, .int .i64 e]])] ++ (x1 ++ (x2 ++ (x3 ++ rest)))) fs) ∧ st = ⟨(.ptr (some (bc, 0, 0)) :: .agg [.int .i64 p1, .int .i64 p2] :: .int .i32 r :: J 3 :: .ptr (some (b4, 0, 0)) :: J 5 :: J 6 :: J 7 :: J 8 :: J 9 :: J 10 :: J 11 :: J 12 :: J 13 :: J 14 :: J 15 :: J 16 :: J 17 :: J 18 :: J 19 :: J 20 :: J 21 :: J 22 :: J 23 :: J 24 :: J 25 :: J 26 :: J 27 :: J 28 :: J 29 :: J 30 :: J 31 :: J 32 :: J 33 :: J 34 :: J 35 :: J 36 :: J 37 :: J 38 :: J 39 :: J 40 :: J 41 :: J 42 :: J 43 :: J 44 :: J 45 :: J 46 :: J 47 :: J 48 :: J 49 :: J 50 :: J 51 :: J 52 :: J 53 :: J 54 :: J 55 :: J 56 :: J 57 :: J 58 :: J 59 :: J 60 :: J 61 :: J 62 :: J 63 :: J 64 :: J 65 :: J 66 :: J 67 :: J 68 :: J 69 :: J 70 :: J 71 :: J 72 :: J 73 :: J 74 :: J 75 :: J 76 :: J 77 :: J 78 :: J 79 :: J 80 :: J 81 :: J 82 :: J 83 :: J 84 :: J 85 :: J 86 :: J 87 :: []), H1⟩) ?_ ?_)
      | apply dwp_seq
      | apply dwp_region
      | apply ops_nil
      | (apply ops_plain; (· exact rfl))
      | (apply bx_box; (· exact rfl); (· exact rfl); (· (first | (dsimp only [putD, DV.cells, DH.new_next, DH.set_next, List.length_cons, List.length_nil, Nat.reduceAdd, List.set_cons_zero, List.set_cons_succ, getD_zero, getD_succ, fieldAt_zero, fieldAt_succ, thenD, blockD, retR, Sv.cells]; done) | (dsimp only [putD, DV.cells, DH.new_next, DH.set_next, List.length_cons, List.length_nil, Nat.reduceAdd, List.set_cons_zero, List.set_cons_succ, getD_zero, getD_succ, fieldAt_zero, fieldAt_succ, thenD, blockD, retR, Sv.cells]; exact rfl) | exact rfl)); (· exact rfl); (· exact rfl); (· assumption); intro b1 H1 hB)
      | fail)
    · refine ⟨?_⟩
      rcases hA1 with ⟨rfl, hA2⟩ | rfl
      · skip
        repeat' (first
          | dsimp only [putD, DV.cells, DH.new_next, DH.set_next, List.length_cons, List.length_nil, Nat.reduceAdd, List.set_cons_zero, List.set_cons_succ, getD_zero, getD_succ, fieldAt_zero, fieldAt_succ, thenD, blockD, retR]
          | apply dwp_region
          | apply ops_nil
          | (apply ops_plain; (· exact rfl))
          | (apply ops_on; (· exact rfl); (· exact rfl); (· (first | with_reducible assumption | with_reducible rfl | decide)))
          | (apply op_pick_t; (· exact rfl); (· exact rfl); (· (first | with_reducible assumption | with_reducible rfl | decide)); (· exact rfl))
          | (apply bx_load0; (· exact rfl); (· exact rfl); (· assumption); (· (repeat (first | with_reducible exact At.here | with_reducible apply At.there | with_reducible apply at_app))); (· (first | exact part57 _ _ _ _ | exact part49 _ _ | exact part49a _ _ _ _ _ _ _ _ _ | exact part49w _ _ _ _ _ _ _ _ _ | exact rfl)))
          | (apply bx_store1; (· exact rfl); (· exact rfl); (· exact rfl); (· assumption); (· (first | (dsimp only [putD, DV.cells, DH.new_next, DH.set_next, List.length_cons, List.length_nil, Nat.reduceAdd, List.set_cons_zero, List.set_cons_succ, getD_zero, getD_succ, fieldAt_zero, fieldAt_succ, thenD, blockD, retR, Sv.cells]; done) | (dsimp only [putD, DV.cells, DH.new_next, DH.set_next, List.length_cons, List.length_nil, Nat.reduceAdd, List.set_cons_zero, List.set_cons_succ, getD_zero, getD_succ, fieldAt_zero, fieldAt_succ, thenD, blockD, retR, Sv.cells]; exact rfl) | exact rfl)); (· (repeat (first | with_reducible exact At.here | with_reducible apply At.there | with_reducible apply at_app))); (· (first | (dsimp only [splice, List.take_zero, List.take_succ_cons, List.length_cons, List.length_nil, Nat.reduceAdd, Nat.zero_add, List.drop_zero, List.drop_succ_cons, List.drop_nil, List.nil_append, List.cons_append, List.append_nil, List.take_nil]; done) | (dsimp only [splice, List.take_zero, List.take_succ_cons, List.length_cons, List.length_nil, Nat.reduceAdd, Nat.zero_add, List.drop_zero, List.drop_succ_cons, List.drop_nil, List.nil_append, List.cons_append, List.append_nil, List.take_nil]; exact rfl) | exact rfl)); (· (repeat (first | with_reducible exact Upd.here | with_reducible apply Upd.there))); (· exact Nat.le_of_ble_eq_true rfl); (· exact rfl); (· exact rfl); (· exact rfl); intro H1 hB)
          | (apply op_at; (· exact rfl))
          | fail)
        rw [hA2] at hB
        exact ⟨rfl, _, _, junk_facts hB rfl rfl⟩
      · skip
        repeat' (first
          | dsimp only [putD, DV.cells, DH.new_next, DH.set_next, List.length_cons, List.length_nil, Nat.reduceAdd, List.set_cons_zero, List.set_cons_succ, getD_zero, getD_succ, fieldAt_zero, fieldAt_succ, thenD, blockD, retR]
          | apply dwp_region
          | apply ops_nil
          | (apply ops_plain; (· exact rfl))
          | (apply ops_off1; (· exact rfl); (· exact rfl); (· (first | with_reducible assumption | with_reducible rfl | decide)))
          | (apply op_pick_f; (· exact rfl); (· exact rfl); (· (first | with_reducible assumption | with_reducible rfl | decide)); (· exact rfl))
          | (apply bx_load0; (· exact rfl); (· exact rfl); (· assumption); (· (repeat (first | with_reducible exact At.here | with_reducible apply At.there | with_reducible apply at_app))); (· (first | exact part57 _ _ _ _ | exact part49 _ _ | exact part49a _ _ _ _ _ _ _ _ _ | exact part49w _ _ _ _ _ _ _ _ _ | exact rfl)))
          | (apply bx_store1; (· exact rfl); (· exact rfl); (· exact rfl); (· assumption); (· (first | (dsimp only [putD, DV.cells, DH.new_next, DH.set_next, List.length_cons, List.length_nil, Nat.reduceAdd, List.set_cons_zero, List.set_cons_succ, getD_zero, getD_succ, fieldAt_zero, fieldAt_succ, thenD, blockD, retR, Sv.cells]; done) | (dsimp only [putD, DV.cells, DH.new_next, DH.set_next, List.length_cons, List.length_nil, Nat.reduceAdd, List.set_cons_zero, List.set_cons_succ, getD_zero, getD_succ, fieldAt_zero, fieldAt_succ, thenD, blockD, retR, Sv.cells]; exact rfl) | exact rfl)); (· (repeat (first | with_reducible exact At.here | with_reducible apply At.there | with_reducible apply at_app))); (· (first | (dsimp only [splice, List.take_zero, List.take_succ_cons, List.length_cons, List.length_nil, Nat.reduceAdd, Nat.zero_add, List.drop_zero, List.drop_succ_cons, List.drop_nil, List.nil_append, List.cons_append, List.append_nil, List.take_nil]; done) | (dsimp only [splice, List.take_zero, List.take_succ_cons, List.length_cons, List.length_nil, Nat.reduceAdd, Nat.zero_add, List.drop_zero, List.drop_succ_cons, List.drop_nil, List.nil_append, List.cons_append, List.append_nil, List.take_nil]; exact rfl) | exact rfl)); (· (repeat (first | with_reducible exact Upd.here | with_reducible apply Upd.there))); (· exact Nat.le_of_ble_eq_true rfl); (· exact rfl); (· exact rfl); (· exact rfl); intro H1 hB)
          | (apply op_at; (· exact rfl))
          | fail)
        exact ⟨rfl, _, _, junk_facts hB rfl rfl⟩
    · rintro st ⟨b4, H1, J, hB, rfl⟩
      try dsimp only [thenD, List.cons_append, List.nil_append] at hB ⊢
      have hn3 : s3.n = piece.length := by rw [own_len o3, rowsB_len]
      cases hLD : (isLet r || isDgt r) with
      | true =>
        have hb48 : 48 ≤ r ∧ r ≤ 122 := by
          unfold isLet isDgt at hLD
          simp at hLD
          omega
        have hu8 : IntKind.u8.wrap r = ((UInt8.ofNat r.toNat).toNat : Int) := by
          have e1 : (UInt8.ofNat r.toNat).toNat = r.toNat := by
            rw [UInt8.toNat_ofNat']; omega
          rw [e1]
          unfold IntKind.wrap
          simp only [IntKind.signed, IntKind.bits]
          simp
          omega
        have hl3 : (rowsB piece).length + 1 ≤ mostD := by rw [rowsB_len]; unfold mostD; omega
        have ef : ∀ q : Int × Int, (if piece = [] then (p1, p2) else (a1, a2)) = q → Cu.take ⟨toks, places, piece, (a1, a2), false, (w1, w2), e⟩ (p1, p2) r = ⟨toks, places, piece ++ [UInt8.ofNat r.toNat], q, false, (w1, w2), e⟩ := by
          intro q hq
          unfold Cu.take
          rw [← hq]
          simp only [Bool.false_eq_true, false_and, if_false]
          rw [if_pos (by simpa using hLD)]
        have hrows : rowsB (piece ++ [UInt8.ofNat r.toNat]) = rowsB piece ++ [[.int .u8 ((UInt8.ofNat r.toNat).toNat : Int)]] := by simp [rowsB]
        cases hpe : ((s3.n : Int) == 0) with
        | true =>
          have hpe' : piece = [] := by
            have : s3.n = 0 := by simpa using hpe
            exact List.length_eq_zero_iff.mp (by omega)
          rw [ef (p1, p2) (if_pos hpe'), ] at hk
          cases hL : isLet r with
          | true =>
            repeat' (first
              | dsimp only [putD, DV.cells, DH.new_next, DH.set_next, List.length_cons, List.length_nil, Nat.reduceAdd, List.set_cons_zero, List.set_cons_succ, getD_zero, getD_succ, fieldAt_zero, fieldAt_succ, thenD, blockD, retR]
              | apply dwp_seq
              | apply dwp_region
              | apply ops_nil
              | (apply ops_plain; (· exact rfl))
              | (apply ops_off0; (· exact rfl); (· exact rfl); (· (first | with_reducible assumption | with_reducible rfl | decide)))
              | (apply op_call; (· exact rfl); (· exact rfl); (· exact rfl); (refine (letter62 _ _).mono ?_; rintro r0 H' ⟨rfl, rfl⟩; rw [hL]))
              | (apply op_pick_t; (· exact rfl); (· exact rfl); (· (first | with_reducible assumption | with_reducible rfl | decide)); (· exact rfl))
              | (apply op_told; (· exact rfl); (· exact congrArg (DV.int _) hu8))
              | (apply bx_build1 et68; (· exact rfl); (· exact rfl); (· exact rfl); (· exact rfl); (· exact rfl); (· decide); (· assumption); intro bn H1 hB)
              | (apply op_append_s; (· exact rfl); (· exact rfl); (· exact rfl); (· exact rfl); (· exact et68); (· exact o3); (· assumption); (· (repeat (first | with_reducible exact Ctx.here | with_reducible apply Ctx.cons | with_reducible apply Ctx.app))); (· exact At.here); (· exact rfl); (· exact rfl); (· assumption); intro t3 y3 H1 q3 hB)
              | (apply bx_load0; (· exact rfl); (· exact rfl); (· assumption); (· (repeat (first | with_reducible exact At.here | with_reducible apply At.there | with_reducible apply at_app))); (· (first | exact part57 _ _ _ _ | exact part49 _ _ | exact part49a _ _ _ _ _ _ _ _ _ | exact part49w _ _ _ _ _ _ _ _ _ | exact rfl)))
              | (apply bx_store1; (· exact rfl); (· exact rfl); (· exact rfl); (· assumption); (· (first | (dsimp only [putD, DV.cells, DH.new_next, DH.set_next, List.length_cons, List.length_nil, Nat.reduceAdd, List.set_cons_zero, List.set_cons_succ, getD_zero, getD_succ, fieldAt_zero, fieldAt_succ, thenD, blockD, retR, Sv.cells]; done) | (dsimp only [putD, DV.cells, DH.new_next, DH.set_next, List.length_cons, List.length_nil, Nat.reduceAdd, List.set_cons_zero, List.set_cons_succ, getD_zero, getD_succ, fieldAt_zero, fieldAt_succ, thenD, blockD, retR, Sv.cells]; exact rfl) | exact rfl)); (· (repeat (first | with_reducible exact At.here | with_reducible apply At.there | with_reducible apply at_app))); (· (first | (dsimp only [splice, List.take_zero, List.take_succ_cons, List.length_cons, List.length_nil, Nat.reduceAdd, Nat.zero_add, List.drop_zero, List.drop_succ_cons, List.drop_nil, List.nil_append, List.cons_append, List.append_nil, List.take_nil]; done) | (dsimp only [splice, List.take_zero, List.take_succ_cons, List.length_cons, List.length_nil, Nat.reduceAdd, Nat.zero_add, List.drop_zero, List.drop_succ_cons, List.drop_nil, List.nil_append, List.cons_append, List.append_nil, List.take_nil]; exact rfl) | exact rfl)); (· (repeat (first | with_reducible exact Upd.here | with_reducible apply Upd.there))); (· exact Nat.le_of_ble_eq_true rfl); (· exact rfl); (· exact rfl); (· exact rfl); intro H1 hB)
              | (apply op_at; (· exact rfl))
              | (apply dwp_cond_t; (· exact rfl); (· (first | with_reducible assumption | with_reducible rfl | decide)))
              | (apply dwp_cond_f; (· exact rfl); (· (first | with_reducible assumption | with_reducible rfl | decide)))
              | apply dwp_skip
              | apply dwp_ret
              | (refine ⟨_, rfl, ?_⟩)
              | fail)
            refine hk _ _ ⟨s1, s2, t3, x1, x2, y3, o1, o2, ?_, (hB.sub (by (repeat (first | exact List.Sublist.refl _ | exact List.nil_sublist _ | apply List.Sublist.cons_cons | apply List.Sublist.cons | apply List.Sublist.append_left | refine List.Sublist.trans ?_ (List.sublist_append_right _ _)))))⟩
            rw [hrows]; exact q3
          | false =>
            have hD : isDgt r = true := by rw [hL] at hLD; simpa using hLD
            repeat' (first
              | dsimp only [putD, DV.cells, DH.new_next, DH.set_next, List.length_cons, List.length_nil, Nat.reduceAdd, List.set_cons_zero, List.set_cons_succ, getD_zero, getD_succ, fieldAt_zero, fieldAt_succ, thenD, blockD, retR]
              | apply dwp_seq
              | apply dwp_region
              | apply ops_nil
              | (apply ops_plain; (· exact rfl))
              | (apply ops_on; (· exact rfl); (· exact rfl); (· (first | with_reducible assumption | with_reducible rfl | decide)))
              | (apply op_call; (· exact rfl); (· exact rfl); (· exact rfl); (refine (letter62 _ _).mono ?_; rintro r0 H' ⟨rfl, rfl⟩; rw [hL]))
              | (apply op_call; (· exact rfl); (· exact rfl); (· exact rfl); (refine (digit63 _ _).mono ?_; rintro r0 H' ⟨rfl, rfl⟩; rw [hD]))
              | (apply op_pick_f; (· exact rfl); (· exact rfl); (· (first | with_reducible assumption | with_reducible rfl | decide)); (· exact rfl))
              | (apply op_told; (· exact rfl); (· exact congrArg (DV.int _) hu8))
              | (apply bx_build1 et68; (· exact rfl); (· exact rfl); (· exact rfl); (· exact rfl); (· exact rfl); (· decide); (· assumption); intro bn H1 hB)
              | (apply op_append_s; (· exact rfl); (· exact rfl); (· exact rfl); (· exact rfl); (· exact et68); (· exact o3); (· assumption); (· (repeat (first | with_reducible exact Ctx.here | with_reducible apply Ctx.cons | with_reducible apply Ctx.app))); (· exact At.here); (· exact rfl); (· exact rfl); (· assumption); intro t3 y3 H1 q3 hB)
              | (apply bx_load0; (· exact rfl); (· exact rfl); (· assumption); (· (repeat (first | with_reducible exact At.here | with_reducible apply At.there | with_reducible apply at_app))); (· (first | exact part57 _ _ _ _ | exact part49 _ _ | exact part49a _ _ _ _ _ _ _ _ _ | exact part49w _ _ _ _ _ _ _ _ _ | exact rfl)))
              | (apply bx_store1; (· exact rfl); (· exact rfl); (· exact rfl); (· assumption); (· (first | (dsimp only [putD, DV.cells, DH.new_next, DH.set_next, List.length_cons, List.length_nil, Nat.reduceAdd, List.set_cons_zero, List.set_cons_succ, getD_zero, getD_succ, fieldAt_zero, fieldAt_succ, thenD, blockD, retR, Sv.cells]; done) | (dsimp only [putD, DV.cells, DH.new_next, DH.set_next, List.length_cons, List.length_nil, Nat.reduceAdd, List.set_cons_zero, List.set_cons_succ, getD_zero, getD_succ, fieldAt_zero, fieldAt_succ, thenD, blockD, retR, Sv.cells]; exact rfl) | exact rfl)); (· (repeat (first | with_reducible exact At.here | with_reducible apply At.there | with_reducible apply at_app))); (· (first | (dsimp only [splice, List.take_zero, List.take_succ_cons, List.length_cons, List.length_nil, Nat.reduceAdd, Nat.zero_add, List.drop_zero, List.drop_succ_cons, List.drop_nil, List.nil_append, List.cons_append, List.append_nil, List.take_nil]; done) | (dsimp only [splice, List.take_zero, List.take_succ_cons, List.length_cons, List.length_nil, Nat.reduceAdd, Nat.zero_add, List.drop_zero, List.drop_succ_cons, List.drop_nil, List.nil_append, List.cons_append, List.append_nil, List.take_nil]; exact rfl) | exact rfl)); (· (repeat (first | with_reducible exact Upd.here | with_reducible apply Upd.there))); (· exact Nat.le_of_ble_eq_true rfl); (· exact rfl); (· exact rfl); (· exact rfl); intro H1 hB)
              | (apply op_at; (· exact rfl))
              | (apply dwp_cond_t; (· exact rfl); (· (first | with_reducible assumption | with_reducible rfl | decide)))
              | (apply dwp_cond_f; (· exact rfl); (· (first | with_reducible assumption | with_reducible rfl | decide)))
              | apply dwp_skip
              | apply dwp_ret
              | (refine ⟨_, rfl, ?_⟩)
              | fail)
            refine hk _ _ ⟨s1, s2, t3, x1, x2, y3, o1, o2, ?_, (hB.sub (by (repeat (first | exact List.Sublist.refl _ | exact List.nil_sublist _ | apply List.Sublist.cons_cons | apply List.Sublist.cons | apply List.Sublist.append_left | refine List.Sublist.trans ?_ (List.sublist_append_right _ _)))))⟩
            rw [hrows]; exact q3
        | false =>
          have hpe' : ¬ piece = [] := by
            intro h
            subst h
            rw [hn3] at hpe
            cases hpe
          rw [ef (a1, a2) (if_neg hpe')] at hk
          cases hL : isLet r with
          | true =>
            repeat' (first
              | dsimp only [putD, DV.cells, DH.new_next, DH.set_next, List.length_cons, List.length_nil, Nat.reduceAdd, List.set_cons_zero, List.set_cons_succ, getD_zero, getD_succ, fieldAt_zero, fieldAt_succ, thenD, blockD, retR]
              | apply dwp_seq
              | apply dwp_region
              | apply ops_nil
              | (apply ops_plain; (· exact rfl))
              | (apply ops_off0; (· exact rfl); (· exact rfl); (· (first | with_reducible assumption | with_reducible rfl | decide)))
              | (apply op_call; (· exact rfl); (· exact rfl); (· exact rfl); (refine (letter62 _ _).mono ?_; rintro r0 H' ⟨rfl, rfl⟩; rw [hL]))
              | (apply op_pick_t; (· exact rfl); (· exact rfl); (· (first | with_reducible assumption | with_reducible rfl | decide)); (· exact rfl))
              | (apply op_told; (· exact rfl); (· exact congrArg (DV.int _) hu8))
              | (apply bx_build1 et68; (· exact rfl); (· exact rfl); (· exact rfl); (· exact rfl); (· exact rfl); (· decide); (· assumption); intro bn H1 hB)
              | (apply op_append_s; (· exact rfl); (· exact rfl); (· exact rfl); (· exact rfl); (· exact et68); (· exact o3); (· assumption); (· (repeat (first | with_reducible exact Ctx.here | with_reducible apply Ctx.cons | with_reducible apply Ctx.app))); (· exact At.here); (· exact rfl); (· exact rfl); (· assumption); intro t3 y3 H1 q3 hB)
              | (apply bx_load0; (· exact rfl); (· exact rfl); (· assumption); (· (repeat (first | with_reducible exact At.here | with_reducible apply At.there | with_reducible apply at_app))); (· (first | exact part57 _ _ _ _ | exact part49 _ _ | exact part49a _ _ _ _ _ _ _ _ _ | exact part49w _ _ _ _ _ _ _ _ _ | exact rfl)))
              | (apply bx_store1; (· exact rfl); (· exact rfl); (· exact rfl); (· assumption); (· (first | (dsimp only [putD, DV.cells, DH.new_next, DH.set_next, List.length_cons, List.length_nil, Nat.reduceAdd, List.set_cons_zero, List.set_cons_succ, getD_zero, getD_succ, fieldAt_zero, fieldAt_succ, thenD, blockD, retR, Sv.cells]; done) | (dsimp only [putD, DV.cells, DH.new_next, DH.set_next, List.length_cons, List.length_nil, Nat.reduceAdd, List.set_cons_zero, List.set_cons_succ, getD_zero, getD_succ, fieldAt_zero, fieldAt_succ, thenD, blockD, retR, Sv.cells]; exact rfl) | exact rfl)); (· (repeat (first | with_reducible exact At.here | with_reducible apply At.there | with_reducible apply at_app))); (· (first | (dsimp only [splice, List.take_zero, List.take_succ_cons, List.length_cons, List.length_nil, Nat.reduceAdd, Nat.zero_add, List.drop_zero, List.drop_succ_cons, List.drop_nil, List.nil_append, List.cons_append, List.append_nil, List.take_nil]; done) | (dsimp only [splice, List.take_zero, List.take_succ_cons, List.length_cons, List.length_nil, Nat.reduceAdd, Nat.zero_add, List.drop_zero, List.drop_succ_cons, List.drop_nil, List.nil_append, List.cons_append, List.append_nil, List.take_nil]; exact rfl) | exact rfl)); (· (repeat (first | with_reducible exact Upd.here | with_reducible apply Upd.there))); (· exact Nat.le_of_ble_eq_true rfl); (· exact rfl); (· exact rfl); (· exact rfl); intro H1 hB)
              | (apply op_at; (· exact rfl))
              | (apply dwp_cond_t; (· exact rfl); (· (first | with_reducible assumption | with_reducible rfl | decide)))
              | (apply dwp_cond_f; (· exact rfl); (· (first | with_reducible assumption | with_reducible rfl | decide)))
              | apply dwp_skip
              | apply dwp_ret
              | (refine ⟨_, rfl, ?_⟩)
              | fail)
            refine hk _ _ ⟨s1, s2, t3, x1, x2, y3, o1, o2, ?_, (hB.sub (by (repeat (first | exact List.Sublist.refl _ | exact List.nil_sublist _ | apply List.Sublist.cons_cons | apply List.Sublist.cons | apply List.Sublist.append_left | refine List.Sublist.trans ?_ (List.sublist_append_right _ _)))))⟩
            rw [hrows]; exact q3
          | false =>
            have hD : isDgt r = true := by rw [hL] at hLD; simpa using hLD
            repeat' (first
              | dsimp only [putD, DV.cells, DH.new_next, DH.set_next, List.length_cons, List.length_nil, Nat.reduceAdd, List.set_cons_zero, List.set_cons_succ, getD_zero, getD_succ, fieldAt_zero, fieldAt_succ, thenD, blockD, retR]
              | apply dwp_seq
              | apply dwp_region
              | apply ops_nil
              | (apply ops_plain; (· exact rfl))
              | (apply ops_on; (· exact rfl); (· exact rfl); (· (first | with_reducible assumption | with_reducible rfl | decide)))
              | (apply op_call; (· exact rfl); (· exact rfl); (· exact rfl); (refine (letter62 _ _).mono ?_; rintro r0 H' ⟨rfl, rfl⟩; rw [hL]))
              | (apply op_call; (· exact rfl); (· exact rfl); (· exact rfl); (refine (digit63 _ _).mono ?_; rintro r0 H' ⟨rfl, rfl⟩; rw [hD]))
              | (apply op_pick_f; (· exact rfl); (· exact rfl); (· (first | with_reducible assumption | with_reducible rfl | decide)); (· exact rfl))
              | (apply op_told; (· exact rfl); (· exact congrArg (DV.int _) hu8))
              | (apply bx_build1 et68; (· exact rfl); (· exact rfl); (· exact rfl); (· exact rfl); (· exact rfl); (· decide); (· assumption); intro bn H1 hB)
              | (apply op_append_s; (· exact rfl); (· exact rfl); (· exact rfl); (· exact rfl); (· exact et68); (· exact o3); (· assumption); (· (repeat (first | with_reducible exact Ctx.here | with_reducible apply Ctx.cons | with_reducible apply Ctx.app))); (· exact At.here); (· exact rfl); (· exact rfl); (· assumption); intro t3 y3 H1 q3 hB)
              | (apply bx_load0; (· exact rfl); (· exact rfl); (· assumption); (· (repeat (first | with_reducible exact At.here | with_reducible apply At.there | with_reducible apply at_app))); (· (first | exact part57 _ _ _ _ | exact part49 _ _ | exact part49a _ _ _ _ _ _ _ _ _ | exact part49w _ _ _ _ _ _ _ _ _ | exact rfl)))
              | (apply bx_store1; (· exact rfl); (· exact rfl); (· exact rfl); (· assumption); (· (first | (dsimp only [putD, DV.cells, DH.new_next, DH.set_next, List.length_cons, List.length_nil, Nat.reduceAdd, List.set_cons_zero, List.set_cons_succ, getD_zero, getD_succ, fieldAt_zero, fieldAt_succ, thenD, blockD, retR, Sv.cells]; done) | (dsimp only [putD, DV.cells, DH.new_next, DH.set_next, List.length_cons, List.length_nil, Nat.reduceAdd, List.set_cons_zero, List.set_cons_succ, getD_zero, getD_succ, fieldAt_zero, fieldAt_succ, thenD, blockD, retR, Sv.cells]; exact rfl) | exact rfl)); (· (repeat (first | with_reducible exact At.here | with_reducible apply At.there | with_reducible apply at_app))); (· (first | (dsimp only [splice, List.take_zero, List.take_succ_cons, List.length_cons, List.length_nil, Nat.reduceAdd, Nat.zero_add, List.drop_zero, List.drop_succ_cons, List.drop_nil, List.nil_append, List.cons_append, List.append_nil, List.take_nil]; done) | (dsimp only [splice, List.take_zero, List.take_succ_cons, List.length_cons, List.length_nil, Nat.reduceAdd, Nat.zero_add, List.drop_zero, List.drop_succ_cons, List.drop_nil, List.nil_append, List.cons_append, List.append_nil, List.take_nil]; exact rfl) | exact rfl)); (· (repeat (first | with_reducible exact Upd.here | with_reducible apply Upd.there))); (· exact Nat.le_of_ble_eq_true rfl); (· exact rfl); (· exact rfl); (· exact rfl); intro H1 hB)
              | (apply op_at; (· exact rfl))
              | (apply dwp_cond_t; (· exact rfl); (· (first | with_reducible assumption | with_reducible rfl | decide)))
              | (apply dwp_cond_f; (· exact rfl); (· (first | with_reducible assumption | with_reducible rfl | decide)))
              | apply dwp_skip
              | apply dwp_ret
              | (refine ⟨_, rfl, ?_⟩)
              | fail)
            refine hk _ _ ⟨s1, s2, t3, x1, x2, y3, o1, o2, ?_, (hB.sub (by (repeat (first | exact List.Sublist.refl _ | exact List.nil_sublist _ | apply List.Sublist.cons_cons | apply List.Sublist.cons | apply List.Sublist.append_left | refine List.Sublist.trans ?_ (List.sublist_append_right _ _)))))⟩
            rw [hrows]; exact q3
      | false =>
        have hL : isLet r = false := by simp at hLD; exact hLD.1
        have hD : isDgt r = false := by simp at hLD; exact hLD.2
        obtain ⟨c1, hc1⟩ : ∃ c1, c1 = Cu.fin ⟨toks, places, piece, (a1, a2), false, (w1, w2), e⟩ := ⟨_, rfl⟩
        have hfl := fin_len ⟨toks, places, piece, (a1, a2), false, (w1, w2), e⟩
        rw [← hc1] at hfl
        have ef : Cu.take ⟨toks, places, piece, (a1, a2), false, (w1, w2), e⟩ (p1, p2) r = (if r = 32 ∨ r = 9 ∨ r = 10 then c1 else if r = 35 then { c1 with remark := true } else if r = 59 ∨ r = 123 ∨ r = 125 then c1.add ⟨3, [UInt8.ofNat r.toNat], 0, false⟩ (p1, p2) else if r = 45 then { c1 with piece := c1.piece ++ [45], at' := (p1, p2) } else c1.fail (p1, p2) 4) := by
          unfold Cu.take
          simp only [Bool.false_eq_true, false_and, if_false]
          rw [if_neg (by simp [hL, hD]), hc1]
        rw [ef] at hk
        clear ef
        obtain ⟨toks1, places1, piece1, ⟨b1, b2⟩, rem1, ⟨v1, v2⟩, e1⟩ := c1
        dsimp only at hfl hk
        have hl3 : (rowsB piece1).length + 1 ≤ mostD := by rw [rowsB_len, hfl.2.2.1]; decide
        have hrows : rowsB (piece1 ++ [45]) = rowsB piece1 ++ [[.int .u8 ((45 : UInt8).toNat : Int)]] := by simp [rowsB]
        have g1 : toks1.length ≤ 1000000 := by omega
        have g2 : places1.length ≤ 1000000 := by omega
        have g3 : toks.length + 1 ≤ 1000000 := by omega
        have g4 : places.length + 1 ≤ 1000000 := by omega
        have hrest : ∀ {c' : Cu} {H' : DH}, Rep A H' bc c' ((b4, .rows false 2 [[.int .i64 p1, .int .i64 p2]]) :: rest) fs → Rep A H' bc c' rest fs := fun h => h.sub (List.sublist_cons_self _ _)
        by_cases hr32 : r = 32
        · subst hr32
          rw [if_pos (by simp)] at hk
          repeat' (first
            | dsimp only [putD, DV.cells, DH.new_next, DH.set_next, List.length_cons, List.length_nil, Nat.reduceAdd, List.set_cons_zero, List.set_cons_succ, getD_zero, getD_succ, fieldAt_zero, fieldAt_succ, thenD, blockD, retR]
            | apply dwp_seq
            | apply dwp_region
            | apply ops_nil
            | (apply ops_plain; (· exact rfl))
            | (apply ops_on; (· exact rfl); (· exact rfl); (· (first | with_reducible assumption | with_reducible rfl | decide)))
            | (apply op_call; (· exact rfl); (· exact rfl); (· exact rfl); (refine (letter62 _ _).mono ?_; rintro r0 H' ⟨rfl, rfl⟩; rw [hL]))
            | (apply op_call; (· exact rfl); (· exact rfl); (· exact rfl); (refine (digit63 _ _).mono ?_; rintro r0 H' ⟨rfl, rfl⟩; rw [hD]))
            | (apply op_call; (· exact rfl); (· exact rfl); (· exact rfl); (apply end54 (c := ⟨toks, places, piece, (a1, a2), false, (w1, w2), e⟩); (· exact g3); (· exact g4); (· exact h3); (· exact Rep.of1 (c := ⟨toks, places, piece, (a1, a2), false, (w1, w2), e⟩) o1 o2 o3 hB); intro r1 H1 hR1; rw [← hc1] at hR1; obtain ⟨s1, s2, s3, x1, x2, x3, o1, o2, o3, hB⟩ := hR1.ex; dsimp only at o1 o2 o3 hB))
            | (apply op_pick_f; (· exact rfl); (· exact rfl); (· (first | with_reducible assumption | with_reducible rfl | decide)); (· exact rfl))
            | (apply bx_load0; (· exact rfl); (· exact rfl); (· assumption); (· (repeat (first | with_reducible exact At.here | with_reducible apply At.there | with_reducible apply at_app))); (· (first | exact part57 _ _ _ _ | exact part49 _ _ | exact part49a _ _ _ _ _ _ _ _ _ | exact part49w _ _ _ _ _ _ _ _ _ | exact rfl)))
            | (apply op_at; (· exact rfl))
            | (apply dwp_cond_t; (· exact rfl); (· (first | with_reducible assumption | with_reducible rfl | decide)))
            | (apply dwp_cond_f; (· exact rfl); (· (first | with_reducible assumption | with_reducible rfl | decide)))
            | apply dwp_block
            | apply dwp_skip
            | (refine ⟨_, rfl, ?_⟩)
            | fail)
          exact hk _ _ (hrest (⟨s1, s2, s3, x1, x2, x3, o1, o2, o3, hB⟩ : Rep _ _ _ ⟨toks1, places1, piece1, (b1, b2), rem1, (v1, v2), e1⟩ _ _))
        by_cases hr9 : r = 9
        · subst hr9
          rw [if_pos (by simp)] at hk
          repeat' (first
            | dsimp only [putD, DV.cells, DH.new_next, DH.set_next, List.length_cons, List.length_nil, Nat.reduceAdd, List.set_cons_zero, List.set_cons_succ, getD_zero, getD_succ, fieldAt_zero, fieldAt_succ, thenD, blockD, retR]
            | apply dwp_seq
            | apply dwp_region
            | apply ops_nil
            | (apply ops_plain; (· exact rfl))
            | (apply ops_on; (· exact rfl); (· exact rfl); (· (first | with_reducible assumption | with_reducible rfl | decide)))
            | (apply op_call; (· exact rfl); (· exact rfl); (· exact rfl); (refine (letter62 _ _).mono ?_; rintro r0 H' ⟨rfl, rfl⟩; rw [hL]))
            | (apply op_call; (· exact rfl); (· exact rfl); (· exact rfl); (refine (digit63 _ _).mono ?_; rintro r0 H' ⟨rfl, rfl⟩; rw [hD]))
            | (apply op_call; (· exact rfl); (· exact rfl); (· exact rfl); (apply end54 (c := ⟨toks, places, piece, (a1, a2), false, (w1, w2), e⟩); (· exact g3); (· exact g4); (· exact h3); (· exact Rep.of1 (c := ⟨toks, places, piece, (a1, a2), false, (w1, w2), e⟩) o1 o2 o3 hB); intro r1 H1 hR1; rw [← hc1] at hR1; obtain ⟨s1, s2, s3, x1, x2, x3, o1, o2, o3, hB⟩ := hR1.ex; dsimp only at o1 o2 o3 hB))
            | (apply op_pick_f; (· exact rfl); (· exact rfl); (· (first | with_reducible assumption | with_reducible rfl | decide)); (· exact rfl))
            | (apply bx_load0; (· exact rfl); (· exact rfl); (· assumption); (· (repeat (first | with_reducible exact At.here | with_reducible apply At.there | with_reducible apply at_app))); (· (first | exact part57 _ _ _ _ | exact part49 _ _ | exact part49a _ _ _ _ _ _ _ _ _ | exact part49w _ _ _ _ _ _ _ _ _ | exact rfl)))
            | (apply op_at; (· exact rfl))
            | (apply dwp_cond_t; (· exact rfl); (· (first | with_reducible assumption | with_reducible rfl | decide)))
            | (apply dwp_cond_f; (· exact rfl); (· (first | with_reducible assumption | with_reducible rfl | decide)))
            | apply dwp_block
            | apply dwp_skip
            | (refine ⟨_, rfl, ?_⟩)
            | fail)
          exact hk _ _ (hrest (⟨s1, s2, s3, x1, x2, x3, o1, o2, o3, hB⟩ : Rep _ _ _ ⟨toks1, places1, piece1, (b1, b2), rem1, (v1, v2), e1⟩ _ _))
        by_cases hr10 : r = 10
        · subst hr10
          rw [if_pos (by simp)] at hk
          repeat' (first
            | dsimp only [putD, DV.cells, DH.new_next, DH.set_next, List.length_cons, List.length_nil, Nat.reduceAdd, List.set_cons_zero, List.set_cons_succ, getD_zero, getD_succ, fieldAt_zero, fieldAt_succ, thenD, blockD, retR]
            | apply dwp_seq
            | apply dwp_region
            | apply ops_nil
            | (apply ops_plain; (· exact rfl))
            | (apply ops_on; (· exact rfl); (· exact rfl); (· (first | with_reducible assumption | with_reducible rfl | decide)))
            | (apply op_call; (· exact rfl); (· exact rfl); (· exact rfl); (refine (letter62 _ _).mono ?_; rintro r0 H' ⟨rfl, rfl⟩; rw [hL]))
            | (apply op_call; (· exact rfl); (· exact rfl); (· exact rfl); (refine (digit63 _ _).mono ?_; rintro r0 H' ⟨rfl, rfl⟩; rw [hD]))
            | (apply op_call; (· exact rfl); (· exact rfl); (· exact rfl); (apply end54 (c := ⟨toks, places, piece, (a1, a2), false, (w1, w2), e⟩); (· exact g3); (· exact g4); (· exact h3); (· exact Rep.of1 (c := ⟨toks, places, piece, (a1, a2), false, (w1, w2), e⟩) o1 o2 o3 hB); intro r1 H1 hR1; rw [← hc1] at hR1; obtain ⟨s1, s2, s3, x1, x2, x3, o1, o2, o3, hB⟩ := hR1.ex; dsimp only at o1 o2 o3 hB))
            | (apply op_pick_f; (· exact rfl); (· exact rfl); (· (first | with_reducible assumption | with_reducible rfl | decide)); (· exact rfl))
            | (apply bx_load0; (· exact rfl); (· exact rfl); (· assumption); (· (repeat (first | with_reducible exact At.here | with_reducible apply At.there | with_reducible apply at_app))); (· (first | exact part57 _ _ _ _ | exact part49 _ _ | exact part49a _ _ _ _ _ _ _ _ _ | exact part49w _ _ _ _ _ _ _ _ _ | exact rfl)))
            | (apply op_at; (· exact rfl))
            | (apply dwp_cond_t; (· exact rfl); (· (first | with_reducible assumption | with_reducible rfl | decide)))
            | (apply dwp_cond_f; (· exact rfl); (· (first | with_reducible assumption | with_reducible rfl | decide)))
            | apply dwp_block
            | apply dwp_skip
            | (refine ⟨_, rfl, ?_⟩)
            | fail)
          exact hk _ _ (hrest (⟨s1, s2, s3, x1, x2, x3, o1, o2, o3, hB⟩ : Rep _ _ _ ⟨toks1, places1, piece1, (b1, b2), rem1, (v1, v2), e1⟩ _ _))
        by_cases hr35 : r = 35
        · subst hr35
          rw [if_neg (by decide), if_pos rfl] at hk
          repeat' (first
            | dsimp only [putD, DV.cells, DH.new_next, DH.set_next, List.length_cons, List.length_nil, Nat.reduceAdd, List.set_cons_zero, List.set_cons_succ, getD_zero, getD_succ, fieldAt_zero, fieldAt_succ, thenD, blockD, retR]
            | apply dwp_seq
            | apply dwp_region
            | apply ops_nil
            | (apply ops_plain; (· exact rfl))
            | (apply ops_on; (· exact rfl); (· exact rfl); (· (first | with_reducible assumption | with_reducible rfl | decide)))
            | (apply op_call; (· exact rfl); (· exact rfl); (· exact rfl); (refine (letter62 _ _).mono ?_; rintro r0 H' ⟨rfl, rfl⟩; rw [hL]))
            | (apply op_call; (· exact rfl); (· exact rfl); (· exact rfl); (refine (digit63 _ _).mono ?_; rintro r0 H' ⟨rfl, rfl⟩; rw [hD]))
            | (apply op_call; (· exact rfl); (· exact rfl); (· exact rfl); (apply end54 (c := ⟨toks, places, piece, (a1, a2), false, (w1, w2), e⟩); (· exact g3); (· exact g4); (· exact h3); (· exact Rep.of1 (c := ⟨toks, places, piece, (a1, a2), false, (w1, w2), e⟩) o1 o2 o3 hB); intro r1 H1 hR1; rw [← hc1] at hR1; obtain ⟨s1, s2, s3, x1, x2, x3, o1, o2, o3, hB⟩ := hR1.ex; dsimp only at o1 o2 o3 hB))
            | (apply op_pick_f; (· exact rfl); (· exact rfl); (· (first | with_reducible assumption | with_reducible rfl | decide)); (· exact rfl))
            | (apply bx_load0; (· exact rfl); (· exact rfl); (· assumption); (· (repeat (first | with_reducible exact At.here | with_reducible apply At.there | with_reducible apply at_app))); (· (first | exact part57 _ _ _ _ | exact part49 _ _ | exact part49a _ _ _ _ _ _ _ _ _ | exact part49w _ _ _ _ _ _ _ _ _ | exact rfl)))
            | (apply bx_store1; (· exact rfl); (· exact rfl); (· exact rfl); (· assumption); (· (first | (dsimp only [putD, DV.cells, DH.new_next, DH.set_next, List.length_cons, List.length_nil, Nat.reduceAdd, List.set_cons_zero, List.set_cons_succ, getD_zero, getD_succ, fieldAt_zero, fieldAt_succ, thenD, blockD, retR, Sv.cells]; done) | (dsimp only [putD, DV.cells, DH.new_next, DH.set_next, List.length_cons, List.length_nil, Nat.reduceAdd, List.set_cons_zero, List.set_cons_succ, getD_zero, getD_succ, fieldAt_zero, fieldAt_succ, thenD, blockD, retR, Sv.cells]; exact rfl) | exact rfl)); (· (repeat (first | with_reducible exact At.here | with_reducible apply At.there | with_reducible apply at_app))); (· (first | (dsimp only [splice, List.take_zero, List.take_succ_cons, List.length_cons, List.length_nil, Nat.reduceAdd, Nat.zero_add, List.drop_zero, List.drop_succ_cons, List.drop_nil, List.nil_append, List.cons_append, List.append_nil, List.take_nil]; done) | (dsimp only [splice, List.take_zero, List.take_succ_cons, List.length_cons, List.length_nil, Nat.reduceAdd, Nat.zero_add, List.drop_zero, List.drop_succ_cons, List.drop_nil, List.nil_append, List.cons_append, List.append_nil, List.take_nil]; exact rfl) | exact rfl)); (· (repeat (first | with_reducible exact Upd.here | with_reducible apply Upd.there))); (· exact Nat.le_of_ble_eq_true rfl); (· exact rfl); (· exact rfl); (· exact rfl); intro H1 hB)
            | (apply op_at; (· exact rfl))
            | (apply dwp_cond_t; (· exact rfl); (· (first | with_reducible assumption | with_reducible rfl | decide)))
            | (apply dwp_cond_f; (· exact rfl); (· (first | with_reducible assumption | with_reducible rfl | decide)))
            | apply dwp_block
            | apply dwp_skip
            | (refine ⟨_, rfl, ?_⟩)
            | fail)
          exact hk _ _ (hrest (⟨s1, s2, s3, x1, x2, x3, o1, o2, o3, hB⟩ : Rep _ _ _ ⟨toks1, places1, piece1, (b1, b2), true, (v1, v2), e1⟩ _ _))
        by_cases hr59 : r = 59
        · subst hr59
          rw [if_neg (by decide), if_neg (by decide), if_pos (by simp)] at hk
          have henc : (Utf8.encode 59).data.toList = [59] := by decide
          repeat' (first
            | dsimp only [putD, DV.cells, DH.new_next, DH.set_next, List.length_cons, List.length_nil, Nat.reduceAdd, List.set_cons_zero, List.set_cons_succ, getD_zero, getD_succ, fieldAt_zero, fieldAt_succ, thenD, blockD, retR]
            | apply dwp_seq
            | apply dwp_region
            | apply ops_nil
            | (apply ops_plain; (· exact rfl))
            | (apply ops_on; (· exact rfl); (· exact rfl); (· (first | with_reducible assumption | with_reducible rfl | decide)))
            | (apply op_call; (· exact rfl); (· exact rfl); (· exact rfl); (refine (letter62 _ _).mono ?_; rintro r0 H' ⟨rfl, rfl⟩; rw [hL]))
            | (apply op_call; (· exact rfl); (· exact rfl); (· exact rfl); (refine (digit63 _ _).mono ?_; rintro r0 H' ⟨rfl, rfl⟩; rw [hD]))
            | (apply op_call; (· exact rfl); (· exact rfl); (· exact rfl); (apply end54 (c := ⟨toks, places, piece, (a1, a2), false, (w1, w2), e⟩); (· exact g3); (· exact g4); (· exact h3); (· exact Rep.of1 (c := ⟨toks, places, piece, (a1, a2), false, (w1, w2), e⟩) o1 o2 o3 hB); intro r1 H1 hR1; rw [← hc1] at hR1; obtain ⟨s1, s2, s3, x1, x2, x3, o1, o2, o3, hB⟩ := hR1.ex; dsimp only at o1 o2 o3 hB))
            | (apply op_call; (· exact rfl); (· exact rfl); (· exact rfl); (apply add84 (c := ⟨toks1, places1, piece1, (b1, b2), rem1, (v1, v2), e1⟩) (t := ⟨3, [59], 0, false⟩); (· exact g1); (· exact g2); (· exact (⟨s1, s2, s3, x1, x2, x3, o1, o2, o3, hB⟩ : Rep _ _ _ ⟨toks1, places1, piece1, (b1, b2), rem1, (v1, v2), e1⟩ _ _)); intro r2 H2 hR2))
            | (apply op_pick_f; (· exact rfl); (· exact rfl); (· (first | with_reducible assumption | with_reducible rfl | decide)); (· exact rfl))
            | (apply op_told; (· exact rfl); (· exact congrArg DV.str henc))
            | (apply bx_load0; (· exact rfl); (· exact rfl); (· assumption); (· (repeat (first | with_reducible exact At.here | with_reducible apply At.there | with_reducible apply at_app))); (· (first | exact part57 _ _ _ _ | exact part49 _ _ | exact part49a _ _ _ _ _ _ _ _ _ | exact part49w _ _ _ _ _ _ _ _ _ | exact rfl)))
            | (apply op_at; (· exact rfl))
            | (apply dwp_cond_t; (· exact rfl); (· (first | with_reducible assumption | with_reducible rfl | decide)))
            | (apply dwp_cond_f; (· exact rfl); (· (first | with_reducible assumption | with_reducible rfl | decide)))
            | apply dwp_block
            | apply dwp_skip
            | (refine ⟨_, rfl, ?_⟩)
            | fail)
          exact hk _ _ (hrest hR2)
        by_cases hr123 : r = 123
        · subst hr123
          rw [if_neg (by decide), if_neg (by decide), if_pos (by simp)] at hk
          have henc : (Utf8.encode 123).data.toList = [123] := by decide
          repeat' (first
            | dsimp only [putD, DV.cells, DH.new_next, DH.set_next, List.length_cons, List.length_nil, Nat.reduceAdd, List.set_cons_zero, List.set_cons_succ, getD_zero, getD_succ, fieldAt_zero, fieldAt_succ, thenD, blockD, retR]
            | apply dwp_seq
            | apply dwp_region
            | apply ops_nil
            | (apply ops_plain; (· exact rfl))
            | (apply ops_on; (· exact rfl); (· exact rfl); (· (first | with_reducible assumption | with_reducible rfl | decide)))
            | (apply op_call; (· exact rfl); (· exact rfl); (· exact rfl); (refine (letter62 _ _).mono ?_; rintro r0 H' ⟨rfl, rfl⟩; rw [hL]))
            | (apply op_call; (· exact rfl); (· exact rfl); (· exact rfl); (refine (digit63 _ _).mono ?_; rintro r0 H' ⟨rfl, rfl⟩; rw [hD]))
            | (apply op_call; (· exact rfl); (· exact rfl); (· exact rfl); (apply end54 (c := ⟨toks, places, piece, (a1, a2), false, (w1, w2), e⟩); (· exact g3); (· exact g4); (· exact h3); (· exact Rep.of1 (c := ⟨toks, places, piece, (a1, a2), false, (w1, w2), e⟩) o1 o2 o3 hB); intro r1 H1 hR1; rw [← hc1] at hR1; obtain ⟨s1, s2, s3, x1, x2, x3, o1, o2, o3, hB⟩ := hR1.ex; dsimp only at o1 o2 o3 hB))
            | (apply op_call; (· exact rfl); (· exact rfl); (· exact rfl); (apply add84 (c := ⟨toks1, places1, piece1, (b1, b2), rem1, (v1, v2), e1⟩) (t := ⟨3, [123], 0, false⟩); (· exact g1); (· exact g2); (· exact (⟨s1, s2, s3, x1, x2, x3, o1, o2, o3, hB⟩ : Rep _ _ _ ⟨toks1, places1, piece1, (b1, b2), rem1, (v1, v2), e1⟩ _ _)); intro r2 H2 hR2))
            | (apply op_pick_f; (· exact rfl); (· exact rfl); (· (first | with_reducible assumption | with_reducible rfl | decide)); (· exact rfl))
            | (apply op_told; (· exact rfl); (· exact congrArg DV.str henc))
            | (apply bx_load0; (· exact rfl); (· exact rfl); (· assumption); (· (repeat (first | with_reducible exact At.here | with_reducible apply At.there | with_reducible apply at_app))); (· (first | exact part57 _ _ _ _ | exact part49 _ _ | exact part49a _ _ _ _ _ _ _ _ _ | exact part49w _ _ _ _ _ _ _ _ _ | exact rfl)))
            | (apply op_at; (· exact rfl))
            | (apply dwp_cond_t; (· exact rfl); (· (first | with_reducible assumption | with_reducible rfl | decide)))
            | (apply dwp_cond_f; (· exact rfl); (· (first | with_reducible assumption | with_reducible rfl | decide)))
            | apply dwp_block
            | apply dwp_skip
            | (refine ⟨_, rfl, ?_⟩)
            | fail)
          exact hk _ _ (hrest hR2)
        by_cases hr125 : r = 125
        · subst hr125
          rw [if_neg (by decide), if_neg (by decide), if_pos (by simp)] at hk
          have henc : (Utf8.encode 125).data.toList = [125] := by decide
          repeat' (first
            | dsimp only [putD, DV.cells, DH.new_next, DH.set_next, List.length_cons, List.length_nil, Nat.reduceAdd, List.set_cons_zero, List.set_cons_succ, getD_zero, getD_succ, fieldAt_zero, fieldAt_succ, thenD, blockD, retR]
            | apply dwp_seq
            | apply dwp_region
            | apply ops_nil
            | (apply ops_plain; (· exact rfl))
            | (apply ops_on; (· exact rfl); (· exact rfl); (· (first | with_reducible assumption | with_reducible rfl | decide)))
            | (apply op_call; (· exact rfl); (· exact rfl); (· exact rfl); (refine (letter62 _ _).mono ?_; rintro r0 H' ⟨rfl, rfl⟩; rw [hL]))
            | (apply op_call; (· exact rfl); (· exact rfl); (· exact rfl); (refine (digit63 _ _).mono ?_; rintro r0 H' ⟨rfl, rfl⟩; rw [hD]))
            | (apply op_call; (· exact rfl); (· exact rfl); (· exact rfl); (apply end54 (c := ⟨toks, places, piece, (a1, a2), false, (w1, w2), e⟩); (· exact g3); (· exact g4); (· exact h3); (· exact Rep.of1 (c := ⟨toks, places, piece, (a1, a2), false, (w1, w2), e⟩) o1 o2 o3 hB); intro r1 H1 hR1; rw [← hc1] at hR1; obtain ⟨s1, s2, s3, x1, x2, x3, o1, o2, o3, hB⟩ := hR1.ex; dsimp only at o1 o2 o3 hB))
            | (apply op_call; (· exact rfl); (· exact rfl); (· exact rfl); (apply add84 (c := ⟨toks1, places1, piece1, (b1, b2), rem1, (v1, v2), e1⟩) (t := ⟨3, [125], 0, false⟩); (· exact g1); (· exact g2); (· exact (⟨s1, s2, s3, x1, x2, x3, o1, o2, o3, hB⟩ : Rep _ _ _ ⟨toks1, places1, piece1, (b1, b2), rem1, (v1, v2), e1⟩ _ _)); intro r2 H2 hR2))
            | (apply op_pick_f; (· exact rfl); (· exact rfl); (· (first | with_reducible assumption | with_reducible rfl | decide)); (· exact rfl))
            | (apply op_told; (· exact rfl); (· exact congrArg DV.str henc))
            | (apply bx_load0; (· exact rfl); (· exact rfl); (· assumption); (· (repeat (first | with_reducible exact At.here | with_reducible apply At.there | with_reducible apply at_app))); (· (first | exact part57 _ _ _ _ | exact part49 _ _ | exact part49a _ _ _ _ _ _ _ _ _ | exact part49w _ _ _ _ _ _ _ _ _ | exact rfl)))
            | (apply op_at; (· exact rfl))
            | (apply dwp_cond_t; (· exact rfl); (· (first | with_reducible assumption | with_reducible rfl | decide)))
            | (apply dwp_cond_f; (· exact rfl); (· (first | with_reducible assumption | with_reducible rfl | decide)))
            | apply dwp_block
            | apply dwp_skip
            | (refine ⟨_, rfl, ?_⟩)
            | fail)
          exact hk _ _ (hrest hR2)
        by_cases hr45 : r = 45
        · subst hr45
          rw [if_neg (by decide), if_neg (by decide), if_neg (by decide), if_pos rfl] at hk
          repeat' (first
            | dsimp only [putD, DV.cells, DH.new_next, DH.set_next, List.length_cons, List.length_nil, Nat.reduceAdd, List.set_cons_zero, List.set_cons_succ, getD_zero, getD_succ, fieldAt_zero, fieldAt_succ, thenD, blockD, retR]
            | refine dwp_drawq _ rfl [8] (fun H' => Bx A H' [(bc, .rows false 9 [[s1.dv, s2.dv, s3.dv, .int .i64 b1, .int .i64 b2, .bool rem1, .int .i64 v1, .int .i64 v2, .int .i64 e1]]), (b4, .rows false 2 [[.int .i64 p1, .int .i64 p2]])] fs) (fun H' => Bx A H' [(b4, .rows false 2 [[.int .i64 p1, .int .i64 p2]])] fs) (hB.sub (by (repeat (first | exact List.Sublist.refl _ | exact List.nil_sublist _ | apply List.Sublist.cons_cons | apply List.Sublist.cons | apply List.Sublist.append_left | refine List.Sublist.trans ?_ (List.sublist_append_right _ _))))) ?_
            | (apply drawq_pure; (· (first | exact wanted_plain rfl | (apply wanted_on; (· exact rfl); (· exact rfl); (· (first | with_reducible assumption | with_reducible rfl | decide))))); (· exact rfl); (· exact rfl); (· exact rfl))
            | (apply drawq_read; (· (first | exact wanted_plain rfl | (apply wanted_on; (· exact rfl); (· exact rfl); (· (first | with_reducible assumption | with_reducible rfl | decide))))); (· exact rfl); (· exact rfl); (· intro H' h; have h : Bx _ H' _ _ := h; exact opD_load rfl rfl (h.get (by (repeat (first | with_reducible exact At.here | with_reducible apply At.there)))) rfl (by (first | exact part57 _ _ _ _ | exact part49 _ _ | exact part49a _ _ _ _ _ _ _ _ _ | exact part49w _ _ _ _ _ _ _ _ _ | exact rfl))); (· intro h2; exact absurd h2 (by decide)))
            | (apply drawq_read; (· (first | exact wanted_plain rfl | (apply wanted_on; (· exact rfl); (· exact rfl); (· (first | with_reducible assumption | with_reducible rfl | decide))))); (· exact rfl); (· exact rfl); (· intro H' h; have h : Bx _ H' _ _ := h; exact opD_load rfl rfl (h.get (by (repeat (first | with_reducible exact At.here | with_reducible apply At.there)))) rfl (by (first | exact part57 _ _ _ _ | exact part49 _ _ | exact part49a _ _ _ _ _ _ _ _ _ | exact part49w _ _ _ _ _ _ _ _ _ | exact rfl))); (· intro h2 H' h; have h : Bx _ H' _ _ := h; exact opD_load rfl rfl (h.get (by (repeat (first | with_reducible exact At.here | with_reducible apply At.there)))) rfl (by (first | exact part57 _ _ _ _ | exact part49 _ _ | exact part49a _ _ _ _ _ _ _ _ _ | exact part49w _ _ _ _ _ _ _ _ _ | exact rfl))))
            | (apply drawq_sync_st; (· exact rfl); (· (first | exact wanted_plain rfl | (apply wanted_on; (· exact rfl); (· exact rfl); (· (first | with_reducible assumption | with_reducible rfl | decide))))); (· decide +kernel))
            | (apply drawq_move; (· (first | exact wanted_plain rfl | (apply wanted_on; (· exact rfl); (· exact rfl); (· (first | with_reducible assumption | with_reducible rfl | decide))))); (· exact rfl))
            | apply draws_nil
            | (apply draws_pure; (· (first | exact wanted_plain rfl | (apply wanted_on; (· exact rfl); (· exact rfl); (· (first | with_reducible assumption | with_reducible rfl | decide))))); (· exact rfl); (· exact rfl); (· exact rfl))
            | (apply draws_move; (· (first | exact wanted_plain rfl | (apply wanted_on; (· exact rfl); (· exact rfl); (· (first | with_reducible assumption | with_reducible rfl | decide))))); (· exact rfl); (· decide +kernel))
            | refine ⟨(hB.sub (by (repeat (first | exact List.Sublist.refl _ | exact List.nil_sublist _ | apply List.Sublist.cons_cons | apply List.Sublist.cons | apply List.Sublist.append_left | refine List.Sublist.trans ?_ (List.sublist_append_right _ _))))), ?_⟩
            | apply dwp_seq
            | apply dwp_region
            | apply ops_nil
            | (apply ops_plain; (· exact rfl))
            | (apply ops_on; (· exact rfl); (· exact rfl); (· (first | with_reducible assumption | with_reducible rfl | decide)))
            | (apply op_call; (· exact rfl); (· exact rfl); (· exact rfl); (refine (letter62 _ _).mono ?_; rintro r0 H' ⟨rfl, rfl⟩; rw [hL]))
            | (apply op_call; (· exact rfl); (· exact rfl); (· exact rfl); (refine (digit63 _ _).mono ?_; rintro r0 H' ⟨rfl, rfl⟩; rw [hD]))
            | (apply op_call; (· exact rfl); (· exact rfl); (· exact rfl); (apply end54 (c := ⟨toks, places, piece, (a1, a2), false, (w1, w2), e⟩); (· exact g3); (· exact g4); (· exact h3); (· exact Rep.of1 (c := ⟨toks, places, piece, (a1, a2), false, (w1, w2), e⟩) o1 o2 o3 hB); intro r1 H1 hR1; rw [← hc1] at hR1; obtain ⟨s1, s2, s3, x1, x2, x3, o1, o2, o3, hB⟩ := hR1.ex; dsimp only at o1 o2 o3 hB))
            | (apply op_pick_f; (· exact rfl); (· exact rfl); (· (first | with_reducible assumption | with_reducible rfl | decide)); (· exact rfl))
            | (apply bx_build1 et68; (· exact rfl); (· exact rfl); (· exact rfl); (· exact rfl); (· exact rfl); (· decide); (· assumption); intro bn H1 hB; refine ⟨(hB.sub (by (repeat (first | exact List.Sublist.refl _ | exact List.nil_sublist _ | apply List.Sublist.cons_cons | apply List.Sublist.cons | apply List.Sublist.append_left | refine List.Sublist.trans ?_ (List.sublist_append_right _ _))))), ?_⟩)
            | (apply op_append_s; (· exact rfl); (· exact rfl); (· exact rfl); (· exact rfl); (· exact et68); (· exact o3); (· assumption); (· (repeat (first | with_reducible exact Ctx.here | with_reducible apply Ctx.cons | with_reducible apply Ctx.app))); (· exact At.here); (· exact rfl); (· exact rfl); (· assumption); intro t3 y3 H1 q3 hB; refine ⟨(hB.sub (by (repeat (first | exact List.Sublist.refl _ | exact List.nil_sublist _ | apply List.Sublist.cons_cons | apply List.Sublist.cons | apply List.Sublist.append_left | refine List.Sublist.trans ?_ (List.sublist_append_right _ _))))), ?_⟩)
            | (apply bx_load0; (· exact rfl); (· exact rfl); (· assumption); (· (repeat (first | with_reducible exact At.here | with_reducible apply At.there | with_reducible apply at_app))); (· (first | exact part57 _ _ _ _ | exact part49 _ _ | exact part49a _ _ _ _ _ _ _ _ _ | exact part49w _ _ _ _ _ _ _ _ _ | exact rfl)))
            | (apply bx_store1; (· exact rfl); (· exact rfl); (· exact rfl); (· assumption); (· (first | (dsimp only [putD, DV.cells, DH.new_next, DH.set_next, List.length_cons, List.length_nil, Nat.reduceAdd, List.set_cons_zero, List.set_cons_succ, getD_zero, getD_succ, fieldAt_zero, fieldAt_succ, thenD, blockD, retR, Sv.cells]; done) | (dsimp only [putD, DV.cells, DH.new_next, DH.set_next, List.length_cons, List.length_nil, Nat.reduceAdd, List.set_cons_zero, List.set_cons_succ, getD_zero, getD_succ, fieldAt_zero, fieldAt_succ, thenD, blockD, retR, Sv.cells]; exact rfl) | exact rfl)); (· (repeat (first | with_reducible exact At.here | with_reducible apply At.there | with_reducible apply at_app))); (· (first | (dsimp only [splice, List.take_zero, List.take_succ_cons, List.length_cons, List.length_nil, Nat.reduceAdd, Nat.zero_add, List.drop_zero, List.drop_succ_cons, List.drop_nil, List.nil_append, List.cons_append, List.append_nil, List.take_nil]; done) | (dsimp only [splice, List.take_zero, List.take_succ_cons, List.length_cons, List.length_nil, Nat.reduceAdd, Nat.zero_add, List.drop_zero, List.drop_succ_cons, List.drop_nil, List.nil_append, List.cons_append, List.append_nil, List.take_nil]; exact rfl) | exact rfl)); (· (repeat (first | with_reducible exact Upd.here | with_reducible apply Upd.there))); (· exact Nat.le_of_ble_eq_true rfl); (· exact rfl); (· exact rfl); (· exact rfl); intro H1 hB)
            | (apply op_at; (· exact rfl))
            | (apply dwp_cond_t; (· exact rfl); (· (first | with_reducible assumption | with_reducible rfl | decide)))
            | (apply dwp_cond_f; (· exact rfl); (· (first | with_reducible assumption | with_reducible rfl | decide)))
            | apply dwp_block
            | apply dwp_skip
            | (refine ⟨_, rfl, ?_⟩)
            | fail)
          refine hk _ _ (hrest ⟨s1, s2, t3, x1, x2, y3, o1, o2, ?_, (hB.sub (by (repeat (first | exact List.Sublist.refl _ | exact List.nil_sublist _ | apply List.Sublist.cons_cons | apply List.Sublist.cons | apply List.Sublist.append_left | refine List.Sublist.trans ?_ (List.sublist_append_right _ _)))))⟩)
          rw [hrows]; exact q3
        have hq32 : (r == 32) = false := by simpa using hr32
        have hq9 : (r == 9) = false := by simpa using hr9
        have hq10 : (r == 10) = false := by simpa using hr10
        have hq35 : (r == 35) = false := by simpa using hr35
        have hq59 : (r == 59) = false := by simpa using hr59
        have hq123 : (r == 123) = false := by simpa using hr123
        have hq125 : (r == 125) = false := by simpa using hr125
        have hq45 : (r == 45) = false := by simpa using hr45
        rw [if_neg (by omega), if_neg hr35, if_neg (by omega), if_neg hr45] at hk
        repeat' (first
          | dsimp only [putD, DV.cells, DH.new_next, DH.set_next, List.length_cons, List.length_nil, Nat.reduceAdd, List.set_cons_zero, List.set_cons_succ, getD_zero, getD_succ, fieldAt_zero, fieldAt_succ, thenD, blockD, retR]
          | apply dwp_seq
          | apply dwp_region
          | apply ops_nil
          | (apply ops_plain; (· exact rfl))
          | (apply ops_on; (· exact rfl); (· exact rfl); (· (first | with_reducible assumption | with_reducible rfl | decide)))
          | (apply op_call; (· exact rfl); (· exact rfl); (· exact rfl); (refine (letter62 _ _).mono ?_; rintro r0 H' ⟨rfl, rfl⟩; rw [hL]))
          | (apply op_call; (· exact rfl); (· exact rfl); (· exact rfl); (refine (digit63 _ _).mono ?_; rintro r0 H' ⟨rfl, rfl⟩; rw [hD]))
          | (apply op_call; (· exact rfl); (· exact rfl); (· exact rfl); (apply end54 (c := ⟨toks, places, piece, (a1, a2), false, (w1, w2), e⟩); (· exact g3); (· exact g4); (· exact h3); (· exact Rep.of1 (c := ⟨toks, places, piece, (a1, a2), false, (w1, w2), e⟩) o1 o2 o3 hB); intro r1 H1 hR1; rw [← hc1] at hR1; obtain ⟨s1, s2, s3, x1, x2, x3, o1, o2, o3, hB⟩ := hR1.ex; dsimp only at o1 o2 o3 hB))
          | (apply op_call; (· exact rfl); (· exact rfl); (· exact rfl); (apply fail55 (c := ⟨toks1, places1, piece1, (b1, b2), rem1, (v1, v2), e1⟩); (· exact (⟨s1, s2, s3, x1, x2, x3, o1, o2, o3, hB⟩ : Rep _ _ _ ⟨toks1, places1, piece1, (b1, b2), rem1, (v1, v2), e1⟩ _ _)); intro r2 H2 hR2))
          | (apply op_pick_f; (· exact rfl); (· exact rfl); (· (first | with_reducible assumption | with_reducible rfl | decide)); (· exact rfl))
          | (apply bx_load0; (· exact rfl); (· exact rfl); (· assumption); (· (repeat (first | with_reducible exact At.here | with_reducible apply At.there | with_reducible apply at_app))); (· (first | exact part57 _ _ _ _ | exact part49 _ _ | exact part49a _ _ _ _ _ _ _ _ _ | exact part49w _ _ _ _ _ _ _ _ _ | exact rfl)))
          | (apply op_at; (· exact rfl))
          | (apply dwp_cond_f; (· exact rfl); (· (first | with_reducible assumption | with_reducible rfl | decide)))
          | apply dwp_block
          | apply dwp_skip
          | (refine ⟨_, rfl, ?_⟩)
          | fail)
        exact hk _ _ (hrest hR2)
end
end Go.Det.C

/- The place behind a rune; a text's runes. -/
namespace Go.Det.C
open Go Go.Det Go.Proofs
set_option maxRecDepth 4000
set_option maxHeartbeats 4000000
set_option linter.unusedVariables false
set_option linter.unusedSimpArgs false
theorem next57 {p1 p2 r : Int} {A H : DH} {bs : List (Nat × DObj)} {fs : List (DH → Prop)} {K : DV → DH → Prop} (h1 : 0 ≤ p1 ∧ p1 ≤ 1000000) (h2 : 0 ≤ p2 ∧ p2 ≤ 1000000) (hB : Bx A H bs fs)
    (hk : ∀ H', Bx A H' bs fs → K (.agg [.int .i64 (nextP (p1, p2) r).1, .int .i64 (nextP (p1, p2) r).2]) H') : CallWp Tryd.prog X3 57 [.agg [.int .i64 p1, .int .i64 p2], .int .i32 r] H K := by
  have w1 : IntKind.i64.wrap (p1 + 1) = p1 + 1 := wrapI (by omega)
  have w2 : IntKind.i64.wrap (p2 + 1) = p2 + 1 := wrapI (by omega)
  unfold nextP at hk
  cases hr : (r == 10) with
  | true =>
    rw [if_pos (by simpa using hr)] at hk
    refine enter rfl Tryd.func57 rfl Tryd.ntmps57 rfl ?_
    dsimp only [List.cons_append, List.nil_append, List.length_cons, List.length_nil, List.replicate_succ, List.replicate_zero, Nat.reduceAdd, Nat.reduceSub]
    repeat' (first
      | dsimp only [putD, DV.cells, DH.new_next, DH.set_next, List.length_cons, List.length_nil, Nat.reduceAdd, List.set_cons_zero, List.set_cons_succ, getD_zero, getD_succ, fieldAt_zero, fieldAt_succ, thenD, blockD, retR]
      | (refine ⟨_, resOf_c (loadD_at rfl (Bx.get (by assumption) (by (repeat (first | with_reducible exact At.here | with_reducible apply At.there | with_reducible apply at_app)))) rfl (by (first | exact part57 _ _ _ _ | exact part49 _ _ | exact part49a _ _ _ _ _ _ _ _ _ | exact part49w _ _ _ _ _ _ _ _ _ | exact rfl))), ?_⟩)
      | apply dwp_seq
      | apply dwp_region
      | apply ops_nil
      | (apply ops_plain; (· exact rfl))
      | (apply op_told; (· exact rfl); (· exact congrArg (DV.int _) w1))
      | (apply bx_load0; (· exact rfl); (· exact rfl); (· assumption); (· (repeat (first | with_reducible exact At.here | with_reducible apply At.there | with_reducible apply at_app))); (· (first | exact part57 _ _ _ _ | exact part49 _ _ | exact part49a _ _ _ _ _ _ _ _ _ | exact part49w _ _ _ _ _ _ _ _ _ | exact rfl)))
      | (apply bx_store0; (· exact rfl); (· exact rfl); (· exact rfl); (· assumption); (· (first | (dsimp only [putD, DV.cells, DH.new_next, DH.set_next, List.length_cons, List.length_nil, Nat.reduceAdd, List.set_cons_zero, List.set_cons_succ, getD_zero, getD_succ, fieldAt_zero, fieldAt_succ, thenD, blockD, retR, Sv.cells]; done) | (dsimp only [putD, DV.cells, DH.new_next, DH.set_next, List.length_cons, List.length_nil, Nat.reduceAdd, List.set_cons_zero, List.set_cons_succ, getD_zero, getD_succ, fieldAt_zero, fieldAt_succ, thenD, blockD, retR, Sv.cells]; exact rfl) | exact rfl)); (· (repeat (first | with_reducible exact Upd.here | with_reducible apply Upd.there))); (· exact rfl); (· exact rfl); (· exact rfl); (· exact rfl); intro H1 hB)
      | (apply bx_box; (· exact rfl); (· exact rfl); (· (first | (dsimp only [putD, DV.cells, DH.new_next, DH.set_next, List.length_cons, List.length_nil, Nat.reduceAdd, List.set_cons_zero, List.set_cons_succ, getD_zero, getD_succ, fieldAt_zero, fieldAt_succ, thenD, blockD, retR, Sv.cells]; done) | (dsimp only [putD, DV.cells, DH.new_next, DH.set_next, List.length_cons, List.length_nil, Nat.reduceAdd, List.set_cons_zero, List.set_cons_succ, getD_zero, getD_succ, fieldAt_zero, fieldAt_succ, thenD, blockD, retR, Sv.cells]; exact rfl) | exact rfl)); (· exact rfl); (· exact rfl); (· assumption); intro b1 H1 hB)
      | (apply bx_alloc; (· exact rfl); (· exact zero49); (· (first | (dsimp only [putD, DV.cells, DH.new_next, DH.set_next, List.length_cons, List.length_nil, Nat.reduceAdd, List.set_cons_zero, List.set_cons_succ, getD_zero, getD_succ, fieldAt_zero, fieldAt_succ, thenD, blockD, retR, Sv.cells]; done) | (dsimp only [putD, DV.cells, DH.new_next, DH.set_next, List.length_cons, List.length_nil, Nat.reduceAdd, List.set_cons_zero, List.set_cons_succ, getD_zero, getD_succ, fieldAt_zero, fieldAt_succ, thenD, blockD, retR, Sv.cells]; exact rfl) | exact rfl)); (· exact rfl); (· exact rfl); (· assumption); intro b1 H1 hB)
      | (apply op_at; (· exact rfl))
      | (apply dwp_cond_t; (· exact rfl); (· (first | with_reducible assumption | with_reducible rfl | decide)))
      | apply dwp_ret
      | fail)
    exact hk _ hB.drop1.drop1
  | false =>
    rw [if_neg (by simpa using hr)] at hk
    refine enter rfl Tryd.func57 rfl Tryd.ntmps57 rfl ?_
    dsimp only [List.cons_append, List.nil_append, List.length_cons, List.length_nil, List.replicate_succ, List.replicate_zero, Nat.reduceAdd, Nat.reduceSub]
    repeat' (first
      | dsimp only [putD, DV.cells, DH.new_next, DH.set_next, List.length_cons, List.length_nil, Nat.reduceAdd, List.set_cons_zero, List.set_cons_succ, getD_zero, getD_succ, fieldAt_zero, fieldAt_succ, thenD, blockD, retR]
      | (refine ⟨_, resOf_c (loadD_at rfl (Bx.get (by assumption) (by (repeat (first | with_reducible exact At.here | with_reducible apply At.there | with_reducible apply at_app)))) rfl (by (first | exact part57 _ _ _ _ | exact part49 _ _ | exact part49a _ _ _ _ _ _ _ _ _ | exact part49w _ _ _ _ _ _ _ _ _ | exact rfl))), ?_⟩)
      | apply dwp_seq
      | apply dwp_region
      | apply ops_nil
      | (apply ops_plain; (· exact rfl))
      | (apply op_told; (· exact rfl); (· exact congrArg (DV.int _) w2))
      | (apply bx_load0; (· exact rfl); (· exact rfl); (· assumption); (· (repeat (first | with_reducible exact At.here | with_reducible apply At.there | with_reducible apply at_app))); (· (first | exact part57 _ _ _ _ | exact part49 _ _ | exact part49a _ _ _ _ _ _ _ _ _ | exact part49w _ _ _ _ _ _ _ _ _ | exact rfl)))
      | (apply bx_store0; (· exact rfl); (· exact rfl); (· exact rfl); (· assumption); (· (first | (dsimp only [putD, DV.cells, DH.new_next, DH.set_next, List.length_cons, List.length_nil, Nat.reduceAdd, List.set_cons_zero, List.set_cons_succ, getD_zero, getD_succ, fieldAt_zero, fieldAt_succ, thenD, blockD, retR, Sv.cells]; done) | (dsimp only [putD, DV.cells, DH.new_next, DH.set_next, List.length_cons, List.length_nil, Nat.reduceAdd, List.set_cons_zero, List.set_cons_succ, getD_zero, getD_succ, fieldAt_zero, fieldAt_succ, thenD, blockD, retR, Sv.cells]; exact rfl) | exact rfl)); (· (repeat (first | with_reducible exact Upd.here | with_reducible apply Upd.there))); (· exact rfl); (· exact rfl); (· exact rfl); (· exact rfl); intro H1 hB)
      | (apply bx_store1; (· exact rfl); (· exact rfl); (· exact rfl); (· assumption); (· (first | (dsimp only [putD, DV.cells, DH.new_next, DH.set_next, List.length_cons, List.length_nil, Nat.reduceAdd, List.set_cons_zero, List.set_cons_succ, getD_zero, getD_succ, fieldAt_zero, fieldAt_succ, thenD, blockD, retR, Sv.cells]; done) | (dsimp only [putD, DV.cells, DH.new_next, DH.set_next, List.length_cons, List.length_nil, Nat.reduceAdd, List.set_cons_zero, List.set_cons_succ, getD_zero, getD_succ, fieldAt_zero, fieldAt_succ, thenD, blockD, retR, Sv.cells]; exact rfl) | exact rfl)); (· (repeat (first | with_reducible exact At.here | with_reducible apply At.there | with_reducible apply at_app))); (· (first | (dsimp only [splice, List.take_zero, List.take_succ_cons, List.length_cons, List.length_nil, Nat.reduceAdd, Nat.zero_add, List.drop_zero, List.drop_succ_cons, List.drop_nil, List.nil_append, List.cons_append, List.append_nil, List.take_nil]; done) | (dsimp only [splice, List.take_zero, List.take_succ_cons, List.length_cons, List.length_nil, Nat.reduceAdd, Nat.zero_add, List.drop_zero, List.drop_succ_cons, List.drop_nil, List.nil_append, List.cons_append, List.append_nil, List.take_nil]; exact rfl) | exact rfl)); (· (repeat (first | with_reducible exact Upd.here | with_reducible apply Upd.there))); (· exact Nat.le_of_ble_eq_true rfl); (· exact rfl); (· exact rfl); (· exact rfl); intro H1 hB)
      | (apply bx_box; (· exact rfl); (· exact rfl); (· (first | (dsimp only [putD, DV.cells, DH.new_next, DH.set_next, List.length_cons, List.length_nil, Nat.reduceAdd, List.set_cons_zero, List.set_cons_succ, getD_zero, getD_succ, fieldAt_zero, fieldAt_succ, thenD, blockD, retR, Sv.cells]; done) | (dsimp only [putD, DV.cells, DH.new_next, DH.set_next, List.length_cons, List.length_nil, Nat.reduceAdd, List.set_cons_zero, List.set_cons_succ, getD_zero, getD_succ, fieldAt_zero, fieldAt_succ, thenD, blockD, retR, Sv.cells]; exact rfl) | exact rfl)); (· exact rfl); (· exact rfl); (· assumption); intro b1 H1 hB)
      | (apply bx_alloc; (· exact rfl); (· exact zero49); (· (first | (dsimp only [putD, DV.cells, DH.new_next, DH.set_next, List.length_cons, List.length_nil, Nat.reduceAdd, List.set_cons_zero, List.set_cons_succ, getD_zero, getD_succ, fieldAt_zero, fieldAt_succ, thenD, blockD, retR, Sv.cells]; done) | (dsimp only [putD, DV.cells, DH.new_next, DH.set_next, List.length_cons, List.length_nil, Nat.reduceAdd, List.set_cons_zero, List.set_cons_succ, getD_zero, getD_succ, fieldAt_zero, fieldAt_succ, thenD, blockD, retR, Sv.cells]; exact rfl) | exact rfl)); (· exact rfl); (· exact rfl); (· assumption); intro b1 H1 hB)
      | (apply op_at; (· exact rfl))
      | (apply dwp_cond_f; (· exact rfl); (· (first | with_reducible assumption | with_reducible rfl | decide)))
      | apply dwp_skip
      | apply dwp_ret
      | fail)
    exact hk _ hB.drop1.drop1
/-! ### runes -/
/-- The rune at a text's front, and its width. -/
def decL (l : List UInt8) : Nat × Nat := Utf8.decode ⟨l.toArray⟩ 0
theorem get_drop (s : List UInt8) (i k : Nat) : (ByteArray.mk s.toArray).get! (i + k) = (ByteArray.mk (s.drop i).toArray).get! (0 + k) := by
  show s.toArray[i + k]! = (s.drop i).toArray[0 + k]!
  simp [getElem!_def, List.getElem?_drop]
theorem decode_drop (s : List UInt8) (i : Nat) (hi : i ≤ s.length) : Utf8.decode ⟨s.toArray⟩ i = decL (s.drop i) := by
  unfold decL Utf8.decode
  have hs : ∀ k, (i + k < (ByteArray.mk s.toArray).size) = (0 + k < (ByteArray.mk (s.drop i).toArray).size) := by
    intro k
    show (i + k < s.toArray.size) = (0 + k < (s.drop i).toArray.size)
    simp
    omega
  simp only [get_drop s i, hs]
theorem decL_width {l : List UInt8} (h : l ≠ []) : 1 ≤ (decL l).2 ∧ (decL l).2 ≤ l.length := by
  have hl : 0 < l.length := List.length_pos_iff.mpr h
  have hsz : (ByteArray.mk l.toArray).size = l.length := rfl
  unfold decL Utf8.decode
  simp only [hsz]
  split
  · exact ⟨Nat.le_refl _, hl⟩
  · split
    · rename_i h1
      simp only [Bool.and_eq_true, decide_eq_true_eq] at h1
      split <;> (simp only; omega)
    · split
      · rename_i h1
        simp only [Bool.and_eq_true, decide_eq_true_eq] at h1
        split <;> (simp only; omega)
      · split
        · rename_i h1
          simp only [Bool.and_eq_true, decide_eq_true_eq] at h1
          split <;> (simp only; omega)
        · exact ⟨Nat.le_refl _, hl⟩
theorem get_app (l m : List UInt8) (k : Nat) (h : k < l.length) : (ByteArray.mk (l ++ m).toArray).get! (0 + k) = (ByteArray.mk l.toArray).get! (0 + k) := by
  show (l ++ m).toArray[0 + k]! = l.toArray[0 + k]!
  simp [getElem!_def, List.getElem?_append_left h]
/-- A line's end cuts no rune. -/
theorem decL_app {l m : List UInt8} (h : l ≠ []) : decL (l ++ 10 :: m) = decL l := by
  have hl : 0 < l.length := List.length_pos_iff.mpr h
  have ga : ∀ k, k < l.length → (ByteArray.mk (l ++ 10 :: m).toArray).get! (0 + k) = (ByteArray.mk l.toArray).get! (0 + k) := fun k hk => get_app l _ k hk
  have gb : (ByteArray.mk (l ++ 10 :: m).toArray).get! (0 + l.length) = 10 := by
    show (l ++ 10 :: m).toArray[0 + l.length]! = 10
    simp [getElem!_def]
  have hs : (ByteArray.mk l.toArray).size = l.length := rfl
  have hs' : (ByteArray.mk (l ++ 10 :: m).toArray).size = l.length + (m.length + 1) := by
    show (l ++ 10 :: m).toArray.size = _
    simp
  have t10 : ((10 : UInt8).toNat / 64 == 2) = false := rfl
  unfold decL Utf8.decode
  simp only [hs, hs']
  have g0 := ga 0 hl
  by_cases h1 : l.length = 1
  · rw [h1] at gb ⊢
    simp only [g0, gb, t10, Bool.and_false, Bool.false_and, Nat.reduceAdd, Nat.lt_irrefl, decide_false, Bool.false_eq_true, if_false]
  · have g1 := ga 1 (by omega)
    have d1 : decide (0 + 1 < l.length + (m.length + 1)) = decide (0 + 1 < l.length) := by
      rw [decide_eq_true (by omega), decide_eq_true (by omega)]
    by_cases h2 : l.length = 2
    · rw [h2] at gb d1 ⊢
      simp only [g0, g1, gb, d1, t10, Bool.and_false, Bool.false_and, Nat.reduceAdd, Nat.lt_irrefl, decide_false, Bool.false_eq_true, if_false]
    · have g2 := ga 2 (by omega)
      have d2 : decide (0 + 2 < l.length + (m.length + 1)) = decide (0 + 2 < l.length) := by
        rw [decide_eq_true (by omega), decide_eq_true (by omega)]
      by_cases h3 : l.length = 3
      · rw [h3] at gb d1 d2 ⊢
        simp only [g0, g1, g2, gb, d1, d2, t10, Bool.and_false, Bool.false_and, Nat.reduceAdd, Nat.lt_irrefl, decide_false, Bool.false_eq_true, if_false]
      · have g3 := ga 3 (by omega)
        have d3 : decide (0 + 3 < l.length + (m.length + 1)) = decide (0 + 3 < l.length) := by
          rw [decide_eq_true (by omega), decide_eq_true (by omega)]
        simp only [g0, g1, g2, g3, d1, d2, d3]
/-- Is what stands at a text's front no rune? -/
def badL (l : List UInt8) : Bool := decide ((decL l).1 = 65533) && !([239, 191, 189].isPrefixOf l)
theorem badL_app {l m : List UInt8} (h : l ≠ []) : badL (l ++ 10 :: m) = badL l := by
  unfold badL
  rw [decL_app h]
  congr 2
  match l, h with
  | [a], _ => simp [List.isPrefixOf]
  | [a, b], _ => simp [List.isPrefixOf]
  | a :: b :: c :: t, _ => simp [List.isPrefixOf]
/-- A text's runes, each with the word whether it is none. -/
def runes (l : List UInt8) : List (Int × Bool) :=
  if h : l = [] then [] else ((((decL l).1 : Nat) : Int), badL l) :: runes (l.drop (decL l).2)
termination_by l.length
decreasing_by
  have h1 := decL_width h
  have h2 : 0 < l.length := List.length_pos_iff.mpr h
  rw [List.length_drop]; omega
theorem runes_nil : runes [] = [] := by rw [runes]; simp
theorem runes_cons {l : List UInt8} (h : l ≠ []) : runes l = ((((decL l).1 : Nat) : Int), badL l) :: runes (l.drop (decL l).2) := by
  rw [runes, dif_neg h]
theorem runes_app (m : List UInt8) : ∀ (n : Nat) (l : List UInt8), l.length ≤ n → runes (l ++ 10 :: m) = runes l ++ runes (10 :: m) := by
  intro n
  induction n with
  | zero =>
    intro l hl
    obtain rfl : l = [] := List.length_eq_zero_iff.mp (by omega)
    rw [runes_nil]; rfl
  | succ n ih =>
    intro l hl
    by_cases h : l = []
    · subst h; rw [runes_nil]; rfl
    · have hw := decL_width h
      rw [runes_cons (by simp : l ++ 10 :: m ≠ []), runes_cons h, decL_app h, badL_app h, List.drop_append_of_le_length hw.2, ih _ (by rw [List.length_drop]; omega)]
      rfl
theorem runes_ascii {c : UInt8} (hc : c.toNat < 128) (m : List UInt8) : runes (c :: m) = ((c.toNat : Int), false) :: runes m := by
  have hd : decL (c :: m) = (c.toNat, 1) := decode_ascii (s := c :: m) (k := 0) rfl hc
  have hb : badL (c :: m) = false := by
    unfold badL
    rw [hd]
    have : decide (c.toNat = 65533) = false := by simp; omega
    simp only [this, Bool.false_and]
  rw [runes_cons (by simp), hd, hb]
  rfl
end Go.Det.C

/- A text is cut. -/
namespace Go.Det.C
open Go Go.Det Go.Proofs
set_option maxRecDepth 4000
set_option maxHeartbeats 4000000
set_option linter.unusedVariables false
set_option linter.unusedSimpArgs false
theorem upd_app {b : Nat} {o o' : DObj} {pre l l' : List (Nat × DObj)} (h : Upd b o o' l l') : Upd b o o' (pre ++ l) (pre ++ l') := by
  induction pre with
  | nil => exact h
  | cons x pre ih => exact .there ih
theorem resOf_ttct {P : Program} {H : DH} {a b c d : Tmp} {t : TypeId} {env : List DV} {v : DV} (h : loadD P t H (env.getD c undefD) = some v) : resOf P [.tmp a, .tmp b, .cell c t, .tmp d] env H = some (.tuple [env.getD a undefD, env.getD b undefD, v, env.getD d undefD]) := by
  simp only [resOf, List.map_cons, List.map_nil, h]
  rfl
/-- One rune. -/
noncomputable def stepR (c : Cu) (p : Int × Int) (x : Int × Bool) : Cu := (if x.2 then (c.fin).fail p 4 else c).take p x.1
/-- What is cut out of runes. -/
noncomputable def goR : List (Int × Bool) → Cu → Int × Int → Cu
  | [], c, p => c.fin
  | x :: r, c, p => if (stepR c p x).e = 0 then goR r (stepR c p x) (nextP p x.1) else stepR c p x
def cu0 : Cu := ⟨[], [], [], (0, 0), false, (0, 0), 0⟩
noncomputable def cutF (s : List UInt8) : Cu := goR (runes s) cu0 (1, 1)
theorem take_len (c : Cu) (p : Int × Int) (r : Int) : (c.take p r).toks.length ≤ c.toks.length + 2 ∧ (c.take p r).places.length ≤ c.places.length + 2 ∧ (c.take p r).piece.length ≤ c.piece.length + 1 := by
  unfold Cu.take
  split
  · exact ⟨by omega, by omega, by omega⟩
  · split
    · simp
    · have h := fin_len { c with remark := false }
      simp only at h
      obtain ⟨h1, h2, h3, h4⟩ := h
      simp only
      split
      · rw [h3]; exact ⟨by omega, by omega, by simp⟩
      · split
        · simp only [h3]; exact ⟨by omega, by omega, by simp⟩
        · split
          · unfold Cu.add; simp only [List.length_append, List.length_cons, List.length_nil, h3]; exact ⟨by omega, by omega, by omega⟩
          · split
            · simp only [List.length_append, List.length_cons, List.length_nil, h3]; exact ⟨by omega, by omega, by omega⟩
            · obtain ⟨k1, k2, k3, k4⟩ := fail_same (Cu.fin { c with remark := false }) p 4
              rw [k1, k2, k3, h3]; exact ⟨by omega, by omega, by simp⟩
theorem step_len (c : Cu) (p : Int × Int) (x : Int × Bool) : (stepR c p x).toks.length ≤ c.toks.length + 3 ∧ (stepR c p x).places.length ≤ c.places.length + 3 ∧ (stepR c p x).piece.length ≤ c.piece.length + 1 := by
  unfold stepR
  obtain ⟨h1, h2, h3, h4⟩ := fin_len c
  obtain ⟨k1, k2, k3, k4⟩ := fail_same c.fin p 4
  split
  · obtain ⟨t1, t2, t3⟩ := take_len (c.fin.fail p 4) p x.1
    rw [k1] at t1; rw [k2] at t2; rw [k3, h3] at t3
    simp only [List.length_nil] at t3
    exact ⟨by omega, by omega, by omega⟩
  · obtain ⟨t1, t2, t3⟩ := take_len c p x.1
    exact ⟨by omega, by omega, by omega⟩
section
variable {A H : DH} {bs : List (Nat × DObj)} {fs : List (DH → Prop)} {K : DV → DH → Prop}
theorem cut24 {s : List UInt8} (hs : s.length ≤ 65536) (hB : Bx A H bs fs)
    (hk1 : (cutF s).e ≠ 0 → ∀ H', Bx A H' bs fs → K (.tuple [.sl none 0 0 true, .sl none 0 0 true, .agg [.int .i64 (cutF s).w.1, .int .i64 (cutF s).w.2], .int .i64 (cutF s).e]) H')
    (hk2 : (cutF s).e = 0 → ∀ (s1 s2 : Sv) x1 x2 H', Own1 4 ((cutF s).toks.map Tok.row) s1.dv x1 → Own1 2 ((cutF s).places.map placeRow) s2.dv x2 → Bx A H' (x1 ++ (x2 ++ bs)) fs → K (.tuple [s1.dv, s2.dv, .agg [.int .i64 0, .int .i64 0], .int .i64 0]) H') :
    CallWp Tryd.prog X3 24 [.str s] H K := by
  have hl0 : decide ((s.length : Int) > 65536) = false := by simp; omega
  refine enter rfl Tryd.func24 rfl Tryd.ntmps24 rfl ?_
  dsimp only [List.cons_append, List.nil_append, List.length_cons, List.length_nil, List.replicate_succ, List.replicate_zero, Nat.reduceAdd, Nat.reduceSub]
  repeat' (first
    | dsimp only [putD, DV.cells, DH.new_next, DH.set_next, List.length_cons, List.length_nil, Nat.reduceAdd, List.set_cons_zero, List.set_cons_succ, getD_zero, getD_succ, fieldAt_zero, fieldAt_succ, thenD, blockD, retR]
    | apply dwp_seq
    | apply dwp_region
    | apply ops_nil
    | (apply ops_plain; (· exact rfl))
    | (apply bx_range; (· exact rfl); (· exact rfl); (· exact rfl); (· assumption); intro bi H1 hB)
    | (apply bx_store0; (· exact rfl); (· exact rfl); (· exact rfl); (· assumption); (· (first | (dsimp only [putD, DV.cells, DH.new_next, DH.set_next, List.length_cons, List.length_nil, Nat.reduceAdd, List.set_cons_zero, List.set_cons_succ, getD_zero, getD_succ, fieldAt_zero, fieldAt_succ, thenD, blockD, retR, Sv.cells]; done) | (dsimp only [putD, DV.cells, DH.new_next, DH.set_next, List.length_cons, List.length_nil, Nat.reduceAdd, List.set_cons_zero, List.set_cons_succ, getD_zero, getD_succ, fieldAt_zero, fieldAt_succ, thenD, blockD, retR, Sv.cells]; exact rfl) | exact rfl)); (· (repeat (first | with_reducible exact Upd.here | with_reducible apply Upd.there | with_reducible apply upd_app))); (· exact rfl); (· exact rfl); (· exact rfl); (· exact rfl); intro H1 hB)
    | (apply bx_box; (· exact rfl); (· exact rfl); (· (first | (dsimp only [putD, DV.cells, DH.new_next, DH.set_next, List.length_cons, List.length_nil, Nat.reduceAdd, List.set_cons_zero, List.set_cons_succ, getD_zero, getD_succ, fieldAt_zero, fieldAt_succ, thenD, blockD, retR, Sv.cells]; done) | (dsimp only [putD, DV.cells, DH.new_next, DH.set_next, List.length_cons, List.length_nil, Nat.reduceAdd, List.set_cons_zero, List.set_cons_succ, getD_zero, getD_succ, fieldAt_zero, fieldAt_succ, thenD, blockD, retR, Sv.cells]; exact rfl) | exact rfl)); (· exact rfl); (· exact rfl); (· assumption); intro b1 H1 hB)
    | (apply bx_alloc; (· exact rfl); (· exact zero49); (· (first | (dsimp only [putD, DV.cells, DH.new_next, DH.set_next, List.length_cons, List.length_nil, Nat.reduceAdd, List.set_cons_zero, List.set_cons_succ, getD_zero, getD_succ, fieldAt_zero, fieldAt_succ, thenD, blockD, retR, Sv.cells]; done) | (dsimp only [putD, DV.cells, DH.new_next, DH.set_next, List.length_cons, List.length_nil, Nat.reduceAdd, List.set_cons_zero, List.set_cons_succ, getD_zero, getD_succ, fieldAt_zero, fieldAt_succ, thenD, blockD, retR, Sv.cells]; exact rfl) | exact rfl)); (· exact rfl); (· exact rfl); (· assumption); intro b1 H1 hB)
    | (apply op_at; (· exact rfl))
    | (apply dwp_cond_f; (· exact rfl); (· (first | with_reducible assumption | with_reducible rfl | decide)))
    | apply dwp_block
    | apply dwp_skip
    | fail)
  refine dwp_loop (fun st => ∃ (b4 b6 bi bc : Nat) (H1 : DH) (pos : Nat) (c : Cu) (p : Int × Int), ∃ J : Nat → DV, (Rep A H1 bc c ((bi, .iter s pos) :: (b6, .rows false 2 [[.int .i64 p.1, .int .i64 p.2]]) :: (b4, .rows false 2 [[.int .i64 0, .int .i64 0]]) :: bs) fs ∧ c.e = 0 ∧ pos ≤ s.length ∧ c.toks.length ≤ 3 * pos ∧ c.places.length ≤ 3 * pos ∧ c.piece.length ≤ pos ∧ (0 ≤ p.1 ∧ p.1 ≤ pos + 1 ∧ 0 ≤ p.2 ∧ p.2 ≤ pos + 1) ∧ goR (runes (s.drop pos)) c p = cutF s) ∧ st = ⟨(.str s :: J 1 :: .sl none 0 0 true :: .sl none 0 0 true :: .ptr (some (b4, 0, 0)) :: .int .i64 0 :: .ptr (some (b6, 0, 0)) :: .ptr (some (bc, 0, 0)) :: J 8 :: J 9 :: J 10 :: J 11 :: J 12 :: J 13 :: J 14 :: J 15 :: J 16 :: J 17 :: .ptr (some (bi, 0, 0)) :: J 19 :: J 20 :: J 21 :: J 22 :: J 23 :: J 24 :: J 25 :: J 26 :: J 27 :: J 28 :: J 29 :: J 30 :: J 31 :: J 32 :: J 33 :: J 34 :: J 35 :: J 36 :: J 37 :: J 38 :: J 39 :: J 40 :: J 41 :: J 42 :: J 43 :: J 44 :: J 45 :: J 46 :: J 47 :: J 48 :: J 49 :: J 50 :: J 51 :: J 52 :: J 53 :: J 54 :: J 55 :: J 56 :: J 57 :: J 58 :: J 59 :: J 60 :: J 61 :: J 62 :: J 63 :: J 64 :: J 65 :: J 66 :: J 67 :: J 68 :: J 69 :: J 70 :: J 71 :: J 72 :: J 73 :: J 74 :: J 75 :: J 76 :: J 77 :: J 78 :: J 79 :: J 80 :: []), H1⟩) (fun st => s.length - posOf st 18) (⟨_, _, _, _, _, 0, cu0, (1, 1), junk_facts (⟨Rep.of1 (c := cu0) (s1 := ⟨none, 0, 0, true⟩) (s2 := ⟨none, 0, 0, true⟩) (s3 := ⟨none, 0, 0, true⟩) (x1 := []) (x2 := []) (x3 := []) (.nil rfl) (.nil rfl) (.nil rfl) hB, rfl, Nat.zero_le _, Nat.zero_le _, Nat.zero_le _, Nat.zero_le _, ⟨by decide, by decide, by decide, by decide⟩, rfl⟩) rfl rfl⟩) ?_
  rintro st ⟨b4, b6, bi, bc, H1, pos, c, p, J, ⟨hR, he, hpos, ht, hp, hpc, hpp, hgo⟩, rfl⟩
  by_cases hlt : pos < s.length
  · have hne : s.drop pos ≠ [] := by
      intro h
      have := congrArg List.length h
      rw [List.length_drop] at this
      simp at this
      omega
    obtain ⟨cn, w, hcw⟩ : ∃ cn w, decL (s.drop pos) = (cn, w) := ⟨_, _, rfl⟩
    have hww := decL_width hne
    rw [hcw, List.length_drop] at hww
    simp only at hww
    have hdec : Utf8.decode ⟨s.toArray⟩ pos = (cn, w) := by rw [decode_drop s pos hpos, hcw]
    rw [runes_cons hne, hcw] at hgo
    unfold goR at hgo
    obtain ⟨c1, hc1⟩ : ∃ c1, stepR c p ((cn : Int), badL (s.drop pos)) = c1 := ⟨_, rfl⟩
    simp only [hc1] at hgo
    have hsl := step_len c p ((cn : Int), badL (s.drop pos))
    rw [hc1] at hsl
    unfold stepR at hc1
    have hin : 0 ≤ (pos : Int) ∧ (pos : Int) ≤ (s.length : Int) := by omega
    have hr0 : 0 ≤ (cn : Int) := by omega
    have b1 : c.toks.length + 1 ≤ 1000000 := by omega
    have b2 : c.places.length + 1 ≤ 1000000 := by omega
    have b3 : c.piece.length ≤ 65536 := by omega
    have b4 : 0 ≤ p.1 ∧ p.1 ≤ 1000000 := by omega
    have b5 : 0 ≤ p.2 ∧ p.2 ≤ 1000000 := by omega
    obtain ⟨f1, f2, f3, f4⟩ := fin_len c
    obtain ⟨g1, g2, g3, g4⟩ := fail_same c.fin p 4
    have t1 : c.toks.length + 1 ≤ 900000 := by omega
    have t2 : c.places.length + 1 ≤ 900000 := by omega
    have u1 : (c.fin.fail p 4).toks.length + 1 ≤ 900000 := by rw [g1]; omega
    have u2 : (c.fin.fail p 4).places.length + 1 ≤ 900000 := by rw [g2]; omega
    have u3 : (c.fin.fail p 4).piece.length ≤ 65536 := by rw [g3, f3]; exact Nat.zero_le _
    obtain ⟨s1, s2, s3, x1, x2, x3, o1, o2, o3, hB⟩ := hR.ex
    have hB0 := hB
    have hnx : (pos : Int).toNat = pos := Int.toNat_natCast _
    cases hF : ((cn : Int) == 65533) with
    | true =>
      have hF' : decide (cn = 65533) = true := by
        have h : (cn : Int) = 65533 := by simpa using hF
        simp; omega
      cases hP : [239, 191, 189].isPrefixOf (s.drop pos) with
      | true =>
        have hbad : badL (s.drop pos) = false := by unfold badL; rw [hcw, hP]; simp
        rw [hbad, if_neg (by simp)] at hc1
        cases he1 : (c1.e != 0) with
        | true =>
          have he1' : c1.e ≠ 0 := by simpa using he1
          rw [if_neg he1'] at hgo
          rw [← hgo] at hk1
          repeat' (first
            | dsimp only [putD, DV.cells, DH.new_next, DH.set_next, List.length_cons, List.length_nil, Nat.reduceAdd, List.set_cons_zero, List.set_cons_succ, getD_zero, getD_succ, fieldAt_zero, fieldAt_succ, thenD, blockD, retR]
            | (refine ⟨_, resOf_ttct (loadD_at rfl (Bx.get (by assumption) (by (repeat (first | with_reducible exact At.here | with_reducible apply At.there | with_reducible apply at_app)))) rfl (by (first | exact part57 _ _ _ _ | exact part49 _ _ | exact part49a _ _ _ _ _ _ _ _ _ | exact part49w _ _ _ _ _ _ _ _ _ | exact rfl))), ?_⟩)
            | refine dwp_drawr _ rfl (fun H' => Bx A H' [(bc, .rows false 9 [c1.row s1 s2 s3])] fs) (hB.sub (by (repeat (first | exact List.Sublist.refl _ | exact List.nil_sublist _ | apply List.Sublist.cons_cons | apply List.Sublist.cons | apply List.Sublist.append_left | refine List.Sublist.trans ?_ (List.sublist_append_right _ _))))) ?_
            | apply drawr_nil
            | (apply drawr_read; (· (first | exact wanted_plain rfl | (apply wanted_on; (· exact rfl); (· exact rfl); (· (first | with_reducible assumption | with_reducible rfl | decide))))); (· exact rfl); (· exact rfl); (· intro H' h; have h : Bx _ H' _ _ := h; exact opD_load rfl rfl (h.get (by (repeat (first | with_reducible exact At.here | with_reducible apply At.there | with_reducible apply at_app)))) rfl (by (first | exact part57 _ _ _ _ | exact part49 _ _ | exact part49a _ _ _ _ _ _ _ _ _ | exact part49w _ _ _ _ _ _ _ _ _ | exact rfl))))
            | (apply drawr_pure; (· (first | exact wanted_plain rfl | (apply wanted_on; (· exact rfl); (· exact rfl); (· (first | with_reducible assumption | with_reducible rfl | decide))))); (· exact rfl); (· exact rfl); (· exact rfl))
            | (apply drawr_move; (· (first | exact wanted_plain rfl | (apply wanted_on; (· exact rfl); (· exact rfl); (· (first | with_reducible assumption | with_reducible rfl | decide))))); (· exact rfl))
            | refine ⟨(hB.sub (by (repeat (first | exact List.Sublist.refl _ | exact List.nil_sublist _ | apply List.Sublist.cons_cons | apply List.Sublist.cons | apply List.Sublist.append_left | refine List.Sublist.trans ?_ (List.sublist_append_right _ _))))), ?_⟩
            | apply dwp_seq
            | apply dwp_region
            | apply ops_nil
            | (apply ops_plain; (· exact rfl))
            | (apply ops_on; (· exact rfl); (· exact rfl); (· (first | with_reducible assumption | with_reducible rfl | decide)))
            | (apply op_call; (· exact rfl); (· exact rfl); (· exact rfl); (refine (CallWp.up up03 (hasPrefix53 _ _ _)).mono ?_; rintro r0 H' ⟨rfl, rfl⟩; rw [hnx, hP]))
            | (apply op_call; (· exact rfl); (· exact rfl); (· exact rfl); (apply take56 (c := c); (· exact hr0); (· exact t1); (· exact t2); (· exact b3); (· exact (⟨s1, s2, s3, x1, x2, x3, o1, o2, o3, hB⟩ : Rep _ _ _ c _ _)); intro r1 H1 hR1; replace hR1 : Rep _ _ _ c1 _ _ := hc1 ▸ hR1; obtain ⟨s1, s2, s3, x1, x2, x3, o1, o2, o3, hB⟩ := hR1.ex))
            | (apply op_pick_t; (· exact rfl); (· exact rfl); (· (first | with_reducible assumption | with_reducible rfl | decide)); (· exact rfl))
            | (apply bx_next (c := cn) (w := w); (· exact rfl); (· exact rfl); (· assumption); (· (repeat (first | with_reducible exact Upd.here | with_reducible apply Upd.there | with_reducible apply upd_app))); (· exact hlt); (· exact hdec); intro H1 hB)
            | (apply op_at; (· exact opD_strDrop rfl rfl rfl rfl hin))
            | (apply bx_load0; (· exact rfl); (· exact rfl); (· assumption); (· (repeat (first | with_reducible exact At.here | with_reducible apply At.there | with_reducible apply at_app))); (· (first | exact part57 _ _ _ _ | exact part49 _ _ | exact part49a _ _ _ _ _ _ _ _ _ | exact part49w _ _ _ _ _ _ _ _ _ | exact rfl)))
            | (apply bx_store0; (· exact rfl); (· exact rfl); (· exact rfl); (· assumption); (· (first | (dsimp only [putD, DV.cells, DH.new_next, DH.set_next, List.length_cons, List.length_nil, Nat.reduceAdd, List.set_cons_zero, List.set_cons_succ, getD_zero, getD_succ, fieldAt_zero, fieldAt_succ, thenD, blockD, retR, Sv.cells]; done) | (dsimp only [putD, DV.cells, DH.new_next, DH.set_next, List.length_cons, List.length_nil, Nat.reduceAdd, List.set_cons_zero, List.set_cons_succ, getD_zero, getD_succ, fieldAt_zero, fieldAt_succ, thenD, blockD, retR, Sv.cells]; exact rfl) | exact rfl)); (· (repeat (first | with_reducible exact Upd.here | with_reducible apply Upd.there | with_reducible apply upd_app))); (· exact rfl); (· exact rfl); (· exact rfl); (· exact rfl); intro H1 hB)
            | (apply op_at; (· exact rfl))
            | (apply dwp_cond_t; (· exact rfl); (· (first | with_reducible assumption | with_reducible rfl | decide)))
            | (apply dwp_cond_f; (· exact rfl); (· (first | with_reducible assumption | with_reducible rfl | decide)))
            | apply dwp_block
            | apply dwp_skip
            | apply dwp_ret
            | fail)
          exact hk1 he1' _ (hB.sub (by (repeat (first | exact List.Sublist.refl _ | exact List.nil_sublist _ | apply List.Sublist.cons_cons | apply List.Sublist.cons | apply List.Sublist.append_left | refine List.Sublist.trans ?_ (List.sublist_append_right _ _)))))
        | false =>
          have he1' : c1.e = 0 := by simpa using he1
          rw [if_pos he1', List.drop_drop] at hgo
          repeat' (first
            | dsimp only [putD, DV.cells, DH.new_next, DH.set_next, List.length_cons, List.length_nil, Nat.reduceAdd, List.set_cons_zero, List.set_cons_succ, getD_zero, getD_succ, fieldAt_zero, fieldAt_succ, thenD, blockD, retR]
            | apply dwp_seq
            | apply dwp_region
            | apply ops_nil
            | (apply ops_plain; (· exact rfl))
            | (apply ops_on; (· exact rfl); (· exact rfl); (· (first | with_reducible assumption | with_reducible rfl | decide)))
            | (apply op_call; (· exact rfl); (· exact rfl); (· exact rfl); (refine (CallWp.up up03 (hasPrefix53 _ _ _)).mono ?_; rintro r0 H' ⟨rfl, rfl⟩; rw [hnx, hP]))
            | (apply op_call; (· exact rfl); (· exact rfl); (· exact rfl); (apply take56 (c := c); (· exact hr0); (· exact t1); (· exact t2); (· exact b3); (· exact (⟨s1, s2, s3, x1, x2, x3, o1, o2, o3, hB⟩ : Rep _ _ _ c _ _)); intro r1 H1 hR1; replace hR1 : Rep _ _ _ c1 _ _ := hc1 ▸ hR1; obtain ⟨s1, s2, s3, x1, x2, x3, o1, o2, o3, hB⟩ := hR1.ex))
            | (apply op_call; (· exact rfl); (· exact rfl); (· exact rfl); (apply next57; (· exact b4); (· exact b5); (· assumption); intro H1 hB))
            | (apply op_pick_t; (· exact rfl); (· exact rfl); (· (first | with_reducible assumption | with_reducible rfl | decide)); (· exact rfl))
            | (apply bx_next (c := cn) (w := w); (· exact rfl); (· exact rfl); (· assumption); (· (repeat (first | with_reducible exact Upd.here | with_reducible apply Upd.there | with_reducible apply upd_app))); (· exact hlt); (· exact hdec); intro H1 hB)
            | (apply op_at; (· exact opD_strDrop rfl rfl rfl rfl hin))
            | (apply bx_load0; (· exact rfl); (· exact rfl); (· assumption); (· (repeat (first | with_reducible exact At.here | with_reducible apply At.there | with_reducible apply at_app))); (· (first | exact part57 _ _ _ _ | exact part49 _ _ | exact part49a _ _ _ _ _ _ _ _ _ | exact part49w _ _ _ _ _ _ _ _ _ | exact rfl)))
            | (apply bx_store0; (· exact rfl); (· exact rfl); (· exact rfl); (· assumption); (· (first | (dsimp only [putD, DV.cells, DH.new_next, DH.set_next, List.length_cons, List.length_nil, Nat.reduceAdd, List.set_cons_zero, List.set_cons_succ, getD_zero, getD_succ, fieldAt_zero, fieldAt_succ, thenD, blockD, retR, Sv.cells]; done) | (dsimp only [putD, DV.cells, DH.new_next, DH.set_next, List.length_cons, List.length_nil, Nat.reduceAdd, List.set_cons_zero, List.set_cons_succ, getD_zero, getD_succ, fieldAt_zero, fieldAt_succ, thenD, blockD, retR, Sv.cells]; exact rfl) | exact rfl)); (· (repeat (first | with_reducible exact Upd.here | with_reducible apply Upd.there | with_reducible apply upd_app))); (· exact rfl); (· exact rfl); (· exact rfl); (· exact rfl); intro H1 hB)
            | (apply op_at; (· exact rfl))
            | (apply dwp_cond_t; (· exact rfl); (· (first | with_reducible assumption | with_reducible rfl | decide)))
            | (apply dwp_cond_f; (· exact rfl); (· (first | with_reducible assumption | with_reducible rfl | decide)))
            | apply dwp_block
            | apply dwp_skip
            | fail)
          refine ⟨⟨_, _, _, _, _, pos + w, c1, nextP p (cn : Int), junk_facts ⟨⟨s1, s2, s3, x1, x2, x3, o1, o2, o3, hB⟩, he1', by omega, by omega, by omega, by omega, by unfold nextP; split <;> (simp only; omega), hgo⟩ rfl rfl⟩, ?_⟩
          rw [posOf_at rfl (hB.get (by (repeat (first | with_reducible exact At.here | with_reducible apply At.there | with_reducible apply at_app)))), posOf_at rfl (hB0.get (by (repeat (first | with_reducible exact At.here | with_reducible apply At.there | with_reducible apply at_app))))]
          omega
      | false =>
        have hbad : badL (s.drop pos) = true := by unfold badL; rw [hcw, hP]; simpa using hF'
        rw [hbad, if_pos rfl] at hc1
        cases he1 : (c1.e != 0) with
        | true =>
          have he1' : c1.e ≠ 0 := by simpa using he1
          rw [if_neg he1'] at hgo
          rw [← hgo] at hk1
          repeat' (first
            | dsimp only [putD, DV.cells, DH.new_next, DH.set_next, List.length_cons, List.length_nil, Nat.reduceAdd, List.set_cons_zero, List.set_cons_succ, getD_zero, getD_succ, fieldAt_zero, fieldAt_succ, thenD, blockD, retR]
            | (refine ⟨_, resOf_ttct (loadD_at rfl (Bx.get (by assumption) (by (repeat (first | with_reducible exact At.here | with_reducible apply At.there | with_reducible apply at_app)))) rfl (by (first | exact part57 _ _ _ _ | exact part49 _ _ | exact part49a _ _ _ _ _ _ _ _ _ | exact part49w _ _ _ _ _ _ _ _ _ | exact rfl))), ?_⟩)
            | refine dwp_drawr _ rfl (fun H' => Bx A H' [(bc, .rows false 9 [c1.row s1 s2 s3])] fs) (hB.sub (by (repeat (first | exact List.Sublist.refl _ | exact List.nil_sublist _ | apply List.Sublist.cons_cons | apply List.Sublist.cons | apply List.Sublist.append_left | refine List.Sublist.trans ?_ (List.sublist_append_right _ _))))) ?_
            | apply drawr_nil
            | (apply drawr_read; (· (first | exact wanted_plain rfl | (apply wanted_on; (· exact rfl); (· exact rfl); (· (first | with_reducible assumption | with_reducible rfl | decide))))); (· exact rfl); (· exact rfl); (· intro H' h; have h : Bx _ H' _ _ := h; exact opD_load rfl rfl (h.get (by (repeat (first | with_reducible exact At.here | with_reducible apply At.there | with_reducible apply at_app)))) rfl (by (first | exact part57 _ _ _ _ | exact part49 _ _ | exact part49a _ _ _ _ _ _ _ _ _ | exact part49w _ _ _ _ _ _ _ _ _ | exact rfl))))
            | (apply drawr_pure; (· (first | exact wanted_plain rfl | (apply wanted_on; (· exact rfl); (· exact rfl); (· (first | with_reducible assumption | with_reducible rfl | decide))))); (· exact rfl); (· exact rfl); (· exact rfl))
            | (apply drawr_move; (· (first | exact wanted_plain rfl | (apply wanted_on; (· exact rfl); (· exact rfl); (· (first | with_reducible assumption | with_reducible rfl | decide))))); (· exact rfl))
            | refine ⟨(hB.sub (by (repeat (first | exact List.Sublist.refl _ | exact List.nil_sublist _ | apply List.Sublist.cons_cons | apply List.Sublist.cons | apply List.Sublist.append_left | refine List.Sublist.trans ?_ (List.sublist_append_right _ _))))), ?_⟩
            | apply dwp_seq
            | apply dwp_region
            | apply ops_nil
            | (apply ops_plain; (· exact rfl))
            | (apply ops_on; (· exact rfl); (· exact rfl); (· (first | with_reducible assumption | with_reducible rfl | decide)))
            | (apply op_call; (· exact rfl); (· exact rfl); (· exact rfl); (refine (CallWp.up up03 (hasPrefix53 _ _ _)).mono ?_; rintro r0 H' ⟨rfl, rfl⟩; rw [hnx, hP]))
            | (apply op_call; (· exact rfl); (· exact rfl); (· exact rfl); (apply end54 (c := c); (· exact b1); (· exact b2); (· exact b3); (· exact (⟨s1, s2, s3, x1, x2, x3, o1, o2, o3, hB⟩ : Rep _ _ _ c _ _)); intro r1 H1 hR1; obtain ⟨s1, s2, s3, x1, x2, x3, o1, o2, o3, hB⟩ := hR1.ex))
            | (apply op_call; (· exact rfl); (· exact rfl); (· exact rfl); (apply fail55 (c := c.fin); (· exact (⟨s1, s2, s3, x1, x2, x3, o1, o2, o3, hB⟩ : Rep _ _ _ c.fin _ _)); intro r1 H1 hR1; obtain ⟨s1, s2, s3, x1, x2, x3, o1, o2, o3, hB⟩ := hR1.ex))
            | (apply op_call; (· exact rfl); (· exact rfl); (· exact rfl); (apply take56 (c := c.fin.fail p 4); (· exact hr0); (· exact u1); (· exact u2); (· exact u3); (· exact (⟨s1, s2, s3, x1, x2, x3, o1, o2, o3, hB⟩ : Rep _ _ _ (c.fin.fail p 4) _ _)); intro r1 H1 hR1; replace hR1 : Rep _ _ _ c1 _ _ := hc1 ▸ hR1; obtain ⟨s1, s2, s3, x1, x2, x3, o1, o2, o3, hB⟩ := hR1.ex))
            | (apply op_pick_t; (· exact rfl); (· exact rfl); (· (first | with_reducible assumption | with_reducible rfl | decide)); (· exact rfl))
            | (apply bx_next (c := cn) (w := w); (· exact rfl); (· exact rfl); (· assumption); (· (repeat (first | with_reducible exact Upd.here | with_reducible apply Upd.there | with_reducible apply upd_app))); (· exact hlt); (· exact hdec); intro H1 hB)
            | (apply op_at; (· exact opD_strDrop rfl rfl rfl rfl hin))
            | (apply bx_load0; (· exact rfl); (· exact rfl); (· assumption); (· (repeat (first | with_reducible exact At.here | with_reducible apply At.there | with_reducible apply at_app))); (· (first | exact part57 _ _ _ _ | exact part49 _ _ | exact part49a _ _ _ _ _ _ _ _ _ | exact part49w _ _ _ _ _ _ _ _ _ | exact rfl)))
            | (apply bx_store0; (· exact rfl); (· exact rfl); (· exact rfl); (· assumption); (· (first | (dsimp only [putD, DV.cells, DH.new_next, DH.set_next, List.length_cons, List.length_nil, Nat.reduceAdd, List.set_cons_zero, List.set_cons_succ, getD_zero, getD_succ, fieldAt_zero, fieldAt_succ, thenD, blockD, retR, Sv.cells]; done) | (dsimp only [putD, DV.cells, DH.new_next, DH.set_next, List.length_cons, List.length_nil, Nat.reduceAdd, List.set_cons_zero, List.set_cons_succ, getD_zero, getD_succ, fieldAt_zero, fieldAt_succ, thenD, blockD, retR, Sv.cells]; exact rfl) | exact rfl)); (· (repeat (first | with_reducible exact Upd.here | with_reducible apply Upd.there | with_reducible apply upd_app))); (· exact rfl); (· exact rfl); (· exact rfl); (· exact rfl); intro H1 hB)
            | (apply op_at; (· exact rfl))
            | (apply dwp_cond_t; (· exact rfl); (· (first | with_reducible assumption | with_reducible rfl | decide)))
            | apply dwp_block
            | apply dwp_skip
            | apply dwp_ret
            | fail)
          exact hk1 he1' _ (hB.sub (by (repeat (first | exact List.Sublist.refl _ | exact List.nil_sublist _ | apply List.Sublist.cons_cons | apply List.Sublist.cons | apply List.Sublist.append_left | refine List.Sublist.trans ?_ (List.sublist_append_right _ _)))))
        | false =>
          have he1' : c1.e = 0 := by simpa using he1
          rw [if_pos he1', List.drop_drop] at hgo
          repeat' (first
            | dsimp only [putD, DV.cells, DH.new_next, DH.set_next, List.length_cons, List.length_nil, Nat.reduceAdd, List.set_cons_zero, List.set_cons_succ, getD_zero, getD_succ, fieldAt_zero, fieldAt_succ, thenD, blockD, retR]
            | apply dwp_seq
            | apply dwp_region
            | apply ops_nil
            | (apply ops_plain; (· exact rfl))
            | (apply ops_on; (· exact rfl); (· exact rfl); (· (first | with_reducible assumption | with_reducible rfl | decide)))
            | (apply op_call; (· exact rfl); (· exact rfl); (· exact rfl); (refine (CallWp.up up03 (hasPrefix53 _ _ _)).mono ?_; rintro r0 H' ⟨rfl, rfl⟩; rw [hnx, hP]))
            | (apply op_call; (· exact rfl); (· exact rfl); (· exact rfl); (apply end54 (c := c); (· exact b1); (· exact b2); (· exact b3); (· exact (⟨s1, s2, s3, x1, x2, x3, o1, o2, o3, hB⟩ : Rep _ _ _ c _ _)); intro r1 H1 hR1; obtain ⟨s1, s2, s3, x1, x2, x3, o1, o2, o3, hB⟩ := hR1.ex))
            | (apply op_call; (· exact rfl); (· exact rfl); (· exact rfl); (apply fail55 (c := c.fin); (· exact (⟨s1, s2, s3, x1, x2, x3, o1, o2, o3, hB⟩ : Rep _ _ _ c.fin _ _)); intro r1 H1 hR1; obtain ⟨s1, s2, s3, x1, x2, x3, o1, o2, o3, hB⟩ := hR1.ex))
            | (apply op_call; (· exact rfl); (· exact rfl); (· exact rfl); (apply take56 (c := c.fin.fail p 4); (· exact hr0); (· exact u1); (· exact u2); (· exact u3); (· exact (⟨s1, s2, s3, x1, x2, x3, o1, o2, o3, hB⟩ : Rep _ _ _ (c.fin.fail p 4) _ _)); intro r1 H1 hR1; replace hR1 : Rep _ _ _ c1 _ _ := hc1 ▸ hR1; obtain ⟨s1, s2, s3, x1, x2, x3, o1, o2, o3, hB⟩ := hR1.ex))
            | (apply op_call; (· exact rfl); (· exact rfl); (· exact rfl); (apply next57; (· exact b4); (· exact b5); (· assumption); intro H1 hB))
            | (apply op_pick_t; (· exact rfl); (· exact rfl); (· (first | with_reducible assumption | with_reducible rfl | decide)); (· exact rfl))
            | (apply bx_next (c := cn) (w := w); (· exact rfl); (· exact rfl); (· assumption); (· (repeat (first | with_reducible exact Upd.here | with_reducible apply Upd.there | with_reducible apply upd_app))); (· exact hlt); (· exact hdec); intro H1 hB)
            | (apply op_at; (· exact opD_strDrop rfl rfl rfl rfl hin))
            | (apply bx_load0; (· exact rfl); (· exact rfl); (· assumption); (· (repeat (first | with_reducible exact At.here | with_reducible apply At.there | with_reducible apply at_app))); (· (first | exact part57 _ _ _ _ | exact part49 _ _ | exact part49a _ _ _ _ _ _ _ _ _ | exact part49w _ _ _ _ _ _ _ _ _ | exact rfl)))
            | (apply bx_store0; (· exact rfl); (· exact rfl); (· exact rfl); (· assumption); (· (first | (dsimp only [putD, DV.cells, DH.new_next, DH.set_next, List.length_cons, List.length_nil, Nat.reduceAdd, List.set_cons_zero, List.set_cons_succ, getD_zero, getD_succ, fieldAt_zero, fieldAt_succ, thenD, blockD, retR, Sv.cells]; done) | (dsimp only [putD, DV.cells, DH.new_next, DH.set_next, List.length_cons, List.length_nil, Nat.reduceAdd, List.set_cons_zero, List.set_cons_succ, getD_zero, getD_succ, fieldAt_zero, fieldAt_succ, thenD, blockD, retR, Sv.cells]; exact rfl) | exact rfl)); (· (repeat (first | with_reducible exact Upd.here | with_reducible apply Upd.there | with_reducible apply upd_app))); (· exact rfl); (· exact rfl); (· exact rfl); (· exact rfl); intro H1 hB)
            | (apply op_at; (· exact rfl))
            | (apply dwp_cond_t; (· exact rfl); (· (first | with_reducible assumption | with_reducible rfl | decide)))
            | (apply dwp_cond_f; (· exact rfl); (· (first | with_reducible assumption | with_reducible rfl | decide)))
            | apply dwp_block
            | apply dwp_skip
            | fail)
          refine ⟨⟨_, _, _, _, _, pos + w, c1, nextP p (cn : Int), junk_facts ⟨⟨s1, s2, s3, x1, x2, x3, o1, o2, o3, hB⟩, he1', by omega, by omega, by omega, by omega, by unfold nextP; split <;> (simp only; omega), hgo⟩ rfl rfl⟩, ?_⟩
          rw [posOf_at rfl (hB.get (by (repeat (first | with_reducible exact At.here | with_reducible apply At.there | with_reducible apply at_app)))), posOf_at rfl (hB0.get (by (repeat (first | with_reducible exact At.here | with_reducible apply At.there | with_reducible apply at_app))))]
          omega
    | false =>
      have hF' : decide (cn = 65533) = false := by
        have h : ¬ (cn : Int) = 65533 := by simpa using hF
        simp; omega
      have hbad : badL (s.drop pos) = false := by unfold badL; rw [hcw]; simp only [hF', Bool.false_and]
      rw [hbad, if_neg (by simp)] at hc1
      cases he1 : (c1.e != 0) with
      | true =>
        have he1' : c1.e ≠ 0 := by simpa using he1
        rw [if_neg he1'] at hgo
        rw [← hgo] at hk1
        repeat' (first
          | dsimp only [putD, DV.cells, DH.new_next, DH.set_next, List.length_cons, List.length_nil, Nat.reduceAdd, List.set_cons_zero, List.set_cons_succ, getD_zero, getD_succ, fieldAt_zero, fieldAt_succ, thenD, blockD, retR]
          | (refine ⟨_, resOf_ttct (loadD_at rfl (Bx.get (by assumption) (by (repeat (first | with_reducible exact At.here | with_reducible apply At.there | with_reducible apply at_app)))) rfl (by (first | exact part57 _ _ _ _ | exact part49 _ _ | exact part49a _ _ _ _ _ _ _ _ _ | exact part49w _ _ _ _ _ _ _ _ _ | exact rfl))), ?_⟩)
          | refine dwp_drawr _ rfl (fun H' => Bx A H' [(bc, .rows false 9 [c1.row s1 s2 s3])] fs) (hB.sub (by (repeat (first | exact List.Sublist.refl _ | exact List.nil_sublist _ | apply List.Sublist.cons_cons | apply List.Sublist.cons | apply List.Sublist.append_left | refine List.Sublist.trans ?_ (List.sublist_append_right _ _))))) ?_
          | apply drawr_nil
          | (apply drawr_read; (· (first | exact wanted_plain rfl | (apply wanted_on; (· exact rfl); (· exact rfl); (· (first | with_reducible assumption | with_reducible rfl | decide))))); (· exact rfl); (· exact rfl); (· intro H' h; have h : Bx _ H' _ _ := h; exact opD_load rfl rfl (h.get (by (repeat (first | with_reducible exact At.here | with_reducible apply At.there | with_reducible apply at_app)))) rfl (by (first | exact part57 _ _ _ _ | exact part49 _ _ | exact part49a _ _ _ _ _ _ _ _ _ | exact part49w _ _ _ _ _ _ _ _ _ | exact rfl))))
          | (apply drawr_pure; (· (first | exact wanted_plain rfl | (apply wanted_on; (· exact rfl); (· exact rfl); (· (first | with_reducible assumption | with_reducible rfl | decide))))); (· exact rfl); (· exact rfl); (· exact rfl))
          | (apply drawr_move; (· (first | exact wanted_plain rfl | (apply wanted_on; (· exact rfl); (· exact rfl); (· (first | with_reducible assumption | with_reducible rfl | decide))))); (· exact rfl))
          | refine ⟨(hB.sub (by (repeat (first | exact List.Sublist.refl _ | exact List.nil_sublist _ | apply List.Sublist.cons_cons | apply List.Sublist.cons | apply List.Sublist.append_left | refine List.Sublist.trans ?_ (List.sublist_append_right _ _))))), ?_⟩
          | apply dwp_seq
          | apply dwp_region
          | apply ops_nil
          | (apply ops_plain; (· exact rfl))
          | (apply ops_off1; (· exact rfl); (· exact rfl); (· (first | with_reducible assumption | with_reducible rfl | decide)))
          | (apply op_call; (· exact rfl); (· exact rfl); (· exact rfl); (apply take56 (c := c); (· exact hr0); (· exact t1); (· exact t2); (· exact b3); (· exact (⟨s1, s2, s3, x1, x2, x3, o1, o2, o3, hB⟩ : Rep _ _ _ c _ _)); intro r1 H1 hR1; replace hR1 : Rep _ _ _ c1 _ _ := hc1 ▸ hR1; obtain ⟨s1, s2, s3, x1, x2, x3, o1, o2, o3, hB⟩ := hR1.ex))
          | (apply op_pick_f; (· exact rfl); (· exact rfl); (· (first | with_reducible assumption | with_reducible rfl | decide)); (· exact rfl))
          | (apply bx_next (c := cn) (w := w); (· exact rfl); (· exact rfl); (· assumption); (· (repeat (first | with_reducible exact Upd.here | with_reducible apply Upd.there | with_reducible apply upd_app))); (· exact hlt); (· exact hdec); intro H1 hB)
          | (apply bx_load0; (· exact rfl); (· exact rfl); (· assumption); (· (repeat (first | with_reducible exact At.here | with_reducible apply At.there | with_reducible apply at_app))); (· (first | exact part57 _ _ _ _ | exact part49 _ _ | exact part49a _ _ _ _ _ _ _ _ _ | exact part49w _ _ _ _ _ _ _ _ _ | exact rfl)))
          | (apply bx_store0; (· exact rfl); (· exact rfl); (· exact rfl); (· assumption); (· (first | (dsimp only [putD, DV.cells, DH.new_next, DH.set_next, List.length_cons, List.length_nil, Nat.reduceAdd, List.set_cons_zero, List.set_cons_succ, getD_zero, getD_succ, fieldAt_zero, fieldAt_succ, thenD, blockD, retR, Sv.cells]; done) | (dsimp only [putD, DV.cells, DH.new_next, DH.set_next, List.length_cons, List.length_nil, Nat.reduceAdd, List.set_cons_zero, List.set_cons_succ, getD_zero, getD_succ, fieldAt_zero, fieldAt_succ, thenD, blockD, retR, Sv.cells]; exact rfl) | exact rfl)); (· (repeat (first | with_reducible exact Upd.here | with_reducible apply Upd.there | with_reducible apply upd_app))); (· exact rfl); (· exact rfl); (· exact rfl); (· exact rfl); intro H1 hB)
          | (apply op_at; (· exact rfl))
          | (apply dwp_cond_t; (· exact rfl); (· (first | with_reducible assumption | with_reducible rfl | decide)))
          | (apply dwp_cond_f; (· exact rfl); (· (first | with_reducible assumption | with_reducible rfl | decide)))
          | apply dwp_block
          | apply dwp_skip
          | apply dwp_ret
          | fail)
        exact hk1 he1' _ (hB.sub (by (repeat (first | exact List.Sublist.refl _ | exact List.nil_sublist _ | apply List.Sublist.cons_cons | apply List.Sublist.cons | apply List.Sublist.append_left | refine List.Sublist.trans ?_ (List.sublist_append_right _ _)))))
      | false =>
        have he1' : c1.e = 0 := by simpa using he1
        rw [if_pos he1', List.drop_drop] at hgo
        repeat' (first
          | dsimp only [putD, DV.cells, DH.new_next, DH.set_next, List.length_cons, List.length_nil, Nat.reduceAdd, List.set_cons_zero, List.set_cons_succ, getD_zero, getD_succ, fieldAt_zero, fieldAt_succ, thenD, blockD, retR]
          | apply dwp_seq
          | apply dwp_region
          | apply ops_nil
          | (apply ops_plain; (· exact rfl))
          | (apply ops_off1; (· exact rfl); (· exact rfl); (· (first | with_reducible assumption | with_reducible rfl | decide)))
          | (apply op_call; (· exact rfl); (· exact rfl); (· exact rfl); (apply take56 (c := c); (· exact hr0); (· exact t1); (· exact t2); (· exact b3); (· exact (⟨s1, s2, s3, x1, x2, x3, o1, o2, o3, hB⟩ : Rep _ _ _ c _ _)); intro r1 H1 hR1; replace hR1 : Rep _ _ _ c1 _ _ := hc1 ▸ hR1; obtain ⟨s1, s2, s3, x1, x2, x3, o1, o2, o3, hB⟩ := hR1.ex))
          | (apply op_call; (· exact rfl); (· exact rfl); (· exact rfl); (apply next57; (· exact b4); (· exact b5); (· assumption); intro H1 hB))
          | (apply op_pick_f; (· exact rfl); (· exact rfl); (· (first | with_reducible assumption | with_reducible rfl | decide)); (· exact rfl))
          | (apply bx_next (c := cn) (w := w); (· exact rfl); (· exact rfl); (· assumption); (· (repeat (first | with_reducible exact Upd.here | with_reducible apply Upd.there | with_reducible apply upd_app))); (· exact hlt); (· exact hdec); intro H1 hB)
          | (apply bx_load0; (· exact rfl); (· exact rfl); (· assumption); (· (repeat (first | with_reducible exact At.here | with_reducible apply At.there | with_reducible apply at_app))); (· (first | exact part57 _ _ _ _ | exact part49 _ _ | exact part49a _ _ _ _ _ _ _ _ _ | exact part49w _ _ _ _ _ _ _ _ _ | exact rfl)))
          | (apply bx_store0; (· exact rfl); (· exact rfl); (· exact rfl); (· assumption); (· (first | (dsimp only [putD, DV.cells, DH.new_next, DH.set_next, List.length_cons, List.length_nil, Nat.reduceAdd, List.set_cons_zero, List.set_cons_succ, getD_zero, getD_succ, fieldAt_zero, fieldAt_succ, thenD, blockD, retR, Sv.cells]; done) | (dsimp only [putD, DV.cells, DH.new_next, DH.set_next, List.length_cons, List.length_nil, Nat.reduceAdd, List.set_cons_zero, List.set_cons_succ, getD_zero, getD_succ, fieldAt_zero, fieldAt_succ, thenD, blockD, retR, Sv.cells]; exact rfl) | exact rfl)); (· (repeat (first | with_reducible exact Upd.here | with_reducible apply Upd.there | with_reducible apply upd_app))); (· exact rfl); (· exact rfl); (· exact rfl); (· exact rfl); intro H1 hB)
          | (apply op_at; (· exact rfl))
          | (apply dwp_cond_t; (· exact rfl); (· (first | with_reducible assumption | with_reducible rfl | decide)))
          | (apply dwp_cond_f; (· exact rfl); (· (first | with_reducible assumption | with_reducible rfl | decide)))
          | apply dwp_block
          | apply dwp_skip
          | fail)
        refine ⟨⟨_, _, _, _, _, pos + w, c1, nextP p (cn : Int), junk_facts ⟨⟨s1, s2, s3, x1, x2, x3, o1, o2, o3, hB⟩, he1', by omega, by omega, by omega, by omega, by unfold nextP; split <;> (simp only; omega), hgo⟩ rfl rfl⟩, ?_⟩
        rw [posOf_at rfl (hB.get (by (repeat (first | with_reducible exact At.here | with_reducible apply At.there | with_reducible apply at_app)))), posOf_at rfl (hB0.get (by (repeat (first | with_reducible exact At.here | with_reducible apply At.there | with_reducible apply at_app))))]
        omega
  · have hnil : s.drop pos = [] := List.drop_eq_nil_of_le (by omega)
    rw [hnil, runes_nil] at hgo
    unfold goR at hgo
    have b1 : c.toks.length + 1 ≤ 1000000 := by omega
    have b2 : c.places.length + 1 ≤ 1000000 := by omega
    have b3 : c.piece.length ≤ 65536 := by omega
    obtain ⟨s1, s2, s3, x1, x2, x3, o1, o2, o3, hB⟩ := hR.ex
    cases he1 : ((cutF s).e != 0) with
    | true =>
      have he1' : (cutF s).e ≠ 0 := by simpa using he1
      repeat' (first
        | dsimp only [putD, DV.cells, DH.new_next, DH.set_next, List.length_cons, List.length_nil, Nat.reduceAdd, List.set_cons_zero, List.set_cons_succ, getD_zero, getD_succ, fieldAt_zero, fieldAt_succ, thenD, blockD, retR]
        | (refine ⟨_, resOf_ttct (loadD_at rfl (Bx.get (by assumption) (by (repeat (first | with_reducible exact At.here | with_reducible apply At.there | with_reducible apply at_app)))) rfl (by (first | exact part57 _ _ _ _ | exact part49 _ _ | exact part49a _ _ _ _ _ _ _ _ _ | exact part49w _ _ _ _ _ _ _ _ _ | exact rfl))), ?_⟩)
        | refine dwp_drawr _ rfl (fun H' => Bx A H' [(bc, .rows false 9 [(cutF s).row s1 s2 s3])] fs) (hB.sub (by (repeat (first | exact List.Sublist.refl _ | exact List.nil_sublist _ | apply List.Sublist.cons_cons | apply List.Sublist.cons | apply List.Sublist.append_left | refine List.Sublist.trans ?_ (List.sublist_append_right _ _))))) ?_
        | apply drawr_nil
        | (apply drawr_read; (· (first | exact wanted_plain rfl | (apply wanted_on; (· exact rfl); (· exact rfl); (· (first | with_reducible assumption | with_reducible rfl | decide))))); (· exact rfl); (· exact rfl); (· intro H' h; have h : Bx _ H' _ _ := h; exact opD_load rfl rfl (h.get (by (repeat (first | with_reducible exact At.here | with_reducible apply At.there | with_reducible apply at_app)))) rfl (by (first | exact part57 _ _ _ _ | exact part49 _ _ | exact part49a _ _ _ _ _ _ _ _ _ | exact part49w _ _ _ _ _ _ _ _ _ | exact rfl))))
        | (apply drawr_pure; (· (first | exact wanted_plain rfl | (apply wanted_on; (· exact rfl); (· exact rfl); (· (first | with_reducible assumption | with_reducible rfl | decide))))); (· exact rfl); (· exact rfl); (· exact rfl))
        | (apply drawr_move; (· (first | exact wanted_plain rfl | (apply wanted_on; (· exact rfl); (· exact rfl); (· (first | with_reducible assumption | with_reducible rfl | decide))))); (· exact rfl))
        | refine ⟨(hB.sub (by (repeat (first | exact List.Sublist.refl _ | exact List.nil_sublist _ | apply List.Sublist.cons_cons | apply List.Sublist.cons | apply List.Sublist.append_left | refine List.Sublist.trans ?_ (List.sublist_append_right _ _))))), ?_⟩
        | apply dwp_seq
        | apply dwp_region
        | apply ops_nil
        | (apply ops_plain; (· exact rfl))
        | (apply op_call; (· exact rfl); (· exact rfl); (· exact rfl); (apply end54 (c := c); (· exact b1); (· exact b2); (· exact b3); (· exact (⟨s1, s2, s3, x1, x2, x3, o1, o2, o3, hB⟩ : Rep _ _ _ c _ _)); intro r1 H1 hR1; replace hR1 : Rep _ _ _ (cutF s) _ _ := hgo ▸ hR1; obtain ⟨s1, s2, s3, x1, x2, x3, o1, o2, o3, hB⟩ := hR1.ex))
        | (apply bx_next_end; (· exact rfl); (· exact rfl); (· assumption); (· (repeat (first | with_reducible exact At.here | with_reducible apply At.there | with_reducible apply at_app))); (· exact hlt))
        | (apply bx_load0; (· exact rfl); (· exact rfl); (· assumption); (· (repeat (first | with_reducible exact At.here | with_reducible apply At.there | with_reducible apply at_app))); (· (first | exact part57 _ _ _ _ | exact part49 _ _ | exact part49a _ _ _ _ _ _ _ _ _ | exact part49w _ _ _ _ _ _ _ _ _ | exact rfl)))
        | (apply bx_store0; (· exact rfl); (· exact rfl); (· exact rfl); (· assumption); (· (first | (dsimp only [putD, DV.cells, DH.new_next, DH.set_next, List.length_cons, List.length_nil, Nat.reduceAdd, List.set_cons_zero, List.set_cons_succ, getD_zero, getD_succ, fieldAt_zero, fieldAt_succ, thenD, blockD, retR, Sv.cells]; done) | (dsimp only [putD, DV.cells, DH.new_next, DH.set_next, List.length_cons, List.length_nil, Nat.reduceAdd, List.set_cons_zero, List.set_cons_succ, getD_zero, getD_succ, fieldAt_zero, fieldAt_succ, thenD, blockD, retR, Sv.cells]; exact rfl) | exact rfl)); (· (repeat (first | with_reducible exact Upd.here | with_reducible apply Upd.there | with_reducible apply upd_app))); (· exact rfl); (· exact rfl); (· exact rfl); (· exact rfl); intro H1 hB)
        | (apply op_at; (· exact rfl))
        | (apply dwp_cond_t; (· exact rfl); (· (first | with_reducible assumption | with_reducible rfl | decide)))
        | (apply dwp_cond_f; (· exact rfl); (· (first | with_reducible assumption | with_reducible rfl | decide)))
        | apply dwp_ret
        | apply dwp_exit
        | fail)
      exact hk1 he1' _ (hB.sub (by (repeat (first | exact List.Sublist.refl _ | exact List.nil_sublist _ | apply List.Sublist.cons_cons | apply List.Sublist.cons | apply List.Sublist.append_left | refine List.Sublist.trans ?_ (List.sublist_append_right _ _)))))
    | false =>
      have he1' : (cutF s).e = 0 := by simpa using he1
      repeat' (first
        | dsimp only [putD, DV.cells, DH.new_next, DH.set_next, List.length_cons, List.length_nil, Nat.reduceAdd, List.set_cons_zero, List.set_cons_succ, getD_zero, getD_succ, fieldAt_zero, fieldAt_succ, thenD, blockD, retR]
        | (refine ⟨_, resOf_ttct (loadD_at rfl (Bx.get (by assumption) (by (repeat (first | with_reducible exact At.here | with_reducible apply At.there | with_reducible apply at_app)))) rfl (by (first | exact part57 _ _ _ _ | exact part49 _ _ | exact part49a _ _ _ _ _ _ _ _ _ | exact part49w _ _ _ _ _ _ _ _ _ | exact rfl))), ?_⟩)
        | refine dwp_drawr _ rfl (fun H' => Bx A H' [(bc, .rows false 9 [(cutF s).row s1 s2 s3])] fs) (hB.sub (by (repeat (first | exact List.Sublist.refl _ | exact List.nil_sublist _ | apply List.Sublist.cons_cons | apply List.Sublist.cons | apply List.Sublist.append_left | refine List.Sublist.trans ?_ (List.sublist_append_right _ _))))) ?_
        | apply drawr_nil
        | (apply drawr_read; (· (first | exact wanted_plain rfl | (apply wanted_on; (· exact rfl); (· exact rfl); (· (first | with_reducible assumption | with_reducible rfl | decide))))); (· exact rfl); (· exact rfl); (· intro H' h; have h : Bx _ H' _ _ := h; exact opD_load rfl rfl (h.get (by (repeat (first | with_reducible exact At.here | with_reducible apply At.there | with_reducible apply at_app)))) rfl (by (first | exact part57 _ _ _ _ | exact part49 _ _ | exact part49a _ _ _ _ _ _ _ _ _ | exact part49w _ _ _ _ _ _ _ _ _ | exact rfl))))
        | (apply drawr_pure; (· (first | exact wanted_plain rfl | (apply wanted_on; (· exact rfl); (· exact rfl); (· (first | with_reducible assumption | with_reducible rfl | decide))))); (· exact rfl); (· exact rfl); (· exact rfl))
        | (apply drawr_move; (· (first | exact wanted_plain rfl | (apply wanted_on; (· exact rfl); (· exact rfl); (· (first | with_reducible assumption | with_reducible rfl | decide))))); (· exact rfl))
        | refine ⟨(hB.sub (by (repeat (first | exact List.Sublist.refl _ | exact List.nil_sublist _ | apply List.Sublist.cons_cons | apply List.Sublist.cons | apply List.Sublist.append_left | refine List.Sublist.trans ?_ (List.sublist_append_right _ _))))), ?_⟩
        | apply dwp_seq
        | apply dwp_region
        | apply ops_nil
        | (apply ops_plain; (· exact rfl))
        | (apply op_call; (· exact rfl); (· exact rfl); (· exact rfl); (apply end54 (c := c); (· exact b1); (· exact b2); (· exact b3); (· exact (⟨s1, s2, s3, x1, x2, x3, o1, o2, o3, hB⟩ : Rep _ _ _ c _ _)); intro r1 H1 hR1; replace hR1 : Rep _ _ _ (cutF s) _ _ := hgo ▸ hR1; obtain ⟨s1, s2, s3, x1, x2, x3, o1, o2, o3, hB⟩ := hR1.ex))
        | (apply bx_next_end; (· exact rfl); (· exact rfl); (· assumption); (· (repeat (first | with_reducible exact At.here | with_reducible apply At.there | with_reducible apply at_app))); (· exact hlt))
        | (apply bx_load0; (· exact rfl); (· exact rfl); (· assumption); (· (repeat (first | with_reducible exact At.here | with_reducible apply At.there | with_reducible apply at_app))); (· (first | exact part57 _ _ _ _ | exact part49 _ _ | exact part49a _ _ _ _ _ _ _ _ _ | exact part49w _ _ _ _ _ _ _ _ _ | exact rfl)))
        | (apply bx_store0; (· exact rfl); (· exact rfl); (· exact rfl); (· assumption); (· (first | (dsimp only [putD, DV.cells, DH.new_next, DH.set_next, List.length_cons, List.length_nil, Nat.reduceAdd, List.set_cons_zero, List.set_cons_succ, getD_zero, getD_succ, fieldAt_zero, fieldAt_succ, thenD, blockD, retR, Sv.cells]; done) | (dsimp only [putD, DV.cells, DH.new_next, DH.set_next, List.length_cons, List.length_nil, Nat.reduceAdd, List.set_cons_zero, List.set_cons_succ, getD_zero, getD_succ, fieldAt_zero, fieldAt_succ, thenD, blockD, retR, Sv.cells]; exact rfl) | exact rfl)); (· (repeat (first | with_reducible exact Upd.here | with_reducible apply Upd.there | with_reducible apply upd_app))); (· exact rfl); (· exact rfl); (· exact rfl); (· exact rfl); intro H1 hB)
        | (apply op_at; (· exact rfl))
        | (apply dwp_cond_f; (· exact rfl); (· (first | with_reducible assumption | with_reducible rfl | decide)))
        | apply dwp_skip
        | apply dwp_ret
        | apply dwp_exit
        | fail)
      exact hk2 he1' s1 s2 x1 x2 _ o1 o2 (hB.sub (by (repeat (first | exact List.Sublist.refl _ | exact List.nil_sublist _ | apply List.Sublist.cons_cons | apply List.Sublist.cons | apply List.Sublist.append_left | refine List.Sublist.trans ?_ (List.sublist_append_right _ _)))))
end
end Go.Det.C

/- A row out of what the deterministic reading comes to: slices' weights handed on. -/
namespace Go.Det
set_option linter.unusedVariables false
set_option linter.unusedSimpArgs false
open Go.ChangeShapes Go.WideShapes Go.RowKit
section
variable {P : Program} {A : Type} {enc : TypeId × Value → A} {W : World}
end
end Go.Det
