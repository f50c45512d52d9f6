/- strings.Join as a table. -/
import Derived.Shelf.Strings.OnBuilder
import Derived.Test.YtlmjhpnmfmnmgaaDoorLexB10
namespace Go.Proofs
open Go.Shelf Go.RowKit
-- what the kit's command 'shelf_lay Lays.n156 Nm 156 at Tryd' lays, in plain words
def Tryd.lays156_ren : Go.Shelf.Ren := ⟨fun | 156 => 60 | 165 => 85 | 166 => 38 | 169 => 42 | 240 => 68 | 241 => 97 | 276 => 87 | 277 => 110 | n => n, fun | 31 => 96 | 9 => 9 | 3 => 3 | 4 => 4 | 0 => 0 | 20 => 20 | 72 => 70 | 76 => 75 | 70 => 67 | 37 => 68 | 75 => 74 | 127 => 111 | 164 => 126 | 5 => 5 | 80 => 79 | n => n, fun | n => n⟩
theorem Tryd.lays156 : Go.Proofs.Lays.n156 Tryd.prog Tryd.lays156_ren where
  mixed := by kernel_rfl
  f156 := Tryd.func60.trans (congrArg some (by kernel_rfl))
  f165 := Tryd.func85.trans (congrArg some (by kernel_rfl))
  f166 := Tryd.func38.trans (congrArg some (by kernel_rfl))
  f169 := Tryd.func42.trans (congrArg some (by kernel_rfl))
  f240 := Tryd.func68.trans (congrArg some (by kernel_rfl))
  f241 := Tryd.func97.trans (congrArg some (by kernel_rfl))
  f276 := Tryd.func87.trans (congrArg some (by kernel_rfl))
  f277 := Tryd.func110.trans (congrArg some (by kernel_rfl))
  t0 := Tryd.underlying0
  a0 := Tryd.isAgg0
  z0 := Tryd.sizeOf0
  v0 := Tryd.zeroValue0
  t3 := Tryd.underlying3
  a3 := Tryd.isAgg3
  z3 := Tryd.sizeOf3
  v3 := Tryd.zeroValue3
  t4 := Tryd.underlying4
  a4 := Tryd.isAgg4
  z4 := Tryd.sizeOf4
  v4 := Tryd.zeroValue4
  t9 := Tryd.underlying9
  a9 := Tryd.isAgg9
  z9 := Tryd.sizeOf9
  v9 := Tryd.zeroValue9
  t20 := Tryd.underlying20
  a20 := Tryd.isAgg20
  z20 := Tryd.sizeOf20
  v20 := Tryd.zeroValue20
  t31 := Tryd.underlying96
  a31 := Tryd.isAgg96
  z31 := Tryd.sizeOf96
  v31 := Tryd.zeroValue96
  t37 := Tryd.underlying68
  a37 := Tryd.isAgg68
  z37 := Tryd.sizeOf68
  v37 := Tryd.zeroValue68
  t70 := Tryd.underlying67
  a70 := Tryd.isAgg67
  z70 := Tryd.sizeOf67
  v70 := Tryd.zeroValue67
  t72 := Tryd.underlying70
  a72 := Tryd.isAgg70
  z72 := Tryd.sizeOf70
  v72 := Tryd.zeroValue70
  t75 := Tryd.underlying74
  a75 := Tryd.isAgg74
  z75 := Tryd.sizeOf74
  v75 := Tryd.zeroValue74
  t76 := Tryd.underlying75
  a76 := Tryd.isAgg75
  z76 := Tryd.sizeOf75
  v76 := Tryd.zeroValue75
  t127 := Tryd.underlying111
  a127 := Tryd.isAgg111
  z127 := Tryd.sizeOf111
  v127 := Tryd.zeroValue111
  t164 := Tryd.underlying126
  a164 := Tryd.isAgg126
  z164 := Tryd.sizeOf126
  v164 := Tryd.zeroValue126
theorem Tryd.bextra156 : Builder.Extra Tryd.prog Tryd.lays156_ren where
  sizeBuilder := by kernel_rfl
  liesBuilder := by kernel_rfl
  t5 := Tryd.underlying5
  a5 := Tryd.isAgg5
  z5 := Tryd.sizeOf5
  v5 := Tryd.zeroValue5
  infoByte := by kernel_rfl
  cellsByte := by kernel_rfl
  sizeByte := by kernel_rfl
  neB5 := by decide
end Go.Proofs
namespace Go.Det.C
open Go Go.Det Go.Proofs Go.RowKit
set_option maxRecDepth 4000
set_option linter.unusedVariables false
set_option linter.unusedSimpArgs false
def strsL : List (List DV) → Option (List (List UInt8))
  | [] => some []
  | [.str s] :: r => (strsL r).map (s :: ·)
  | _ => none
theorem strsL_map (l : List (List UInt8)) : strsL (l.map fun s => [DV.str s]) = some l := by
  induction l with
  | nil => rfl
  | cons x l ih => simp [strsL, ih]
theorem map_strsL : ∀ {rows : List (List DV)} {l : List (List UInt8)}, strsL rows = some l → rows = l.map fun s => [DV.str s]
  | [], l, h => by simp only [strsL] at h; cases h; rfl
  | r :: rows, l, h => by
    unfold strsL at h
    split at h
    · rename_i e; cases e
    · rename_i s r' e
      cases e
      cases hr : strsL rows with
      | none => rw [hr] at h; cases h
      | some m =>
        rw [hr] at h
        cases h
        rw [map_strsL hr]
        rfl
    · cases h
/-- Texts, joined. -/
def joinF (l : List (List UInt8)) (sep : List UInt8) : List UInt8 := Lib.join l sep
def gJoin : G := fun args H => match args with
  | [.sl p n c ex, .str sep] => if n = 0 then some (.str [], H) else match p with
    | some (loc, i, z) => match H.obj loc with
      | some (.rows ro sz rs) => if sz = 1 ∧ z = 1 ∧ n ≤ 1000000 ∧ i + n ≤ rs.length then (match strsL ((rs.drop i).take n) with
          | some l => if (joinF l sep).length ≤ 4294967296 then some (.str (joinF l sep), H) else none
          | none => none) else none
      | _ => none
    | none => none
  | _ => none
theorem moves_below {ρ : Rho} {H : DH} {w w' : World} (ha : Agree ρ H w) (hb : Below w.heap.size w w') : Moves ρ H w ρ H w' where
  le := Rho.le_refl _
  agree := ⟨ha.low, fun l pl h => Nat.lt_of_lt_of_le (ha.lies l pl h) hb.size, fun l o h => by
    obtain ⟨pl, hp, ho⟩ := ha.obj l o h
    exact ⟨pl, hp, by rw [hb.block _ (ha.lies l pl hp)]; exact ho⟩, ha.apart⟩
  os := hb.os
  tape := hb.tape
  output := hb.output
  drawn := trivial
  size := hb.size
  same := fun b h _ => hb.block b h
  own := fun b h => .inl h
  fresh := fun _ _ h => .inl h
theorem VR_str_iff {ρ : Rho} {s : List UInt8} {v : Value} : VR ρ (.str s) v ↔ v = .string ⟨s.toArray⟩ := by simp [VR]
theorem join_none {p : Option (Nat × Nat × Nat)} {c : Nat} {ex : Bool} {sep : List UInt8} {ρ : Rho} {H : DH} {w : World} (ha : Agree ρ H w) {v : Value} (hv : VR ρ (.sl p 0 c ex) v) :
    Calls Tryd.prog 60 #[v, .string ⟨sep.toArray⟩] w fun e w' => e = .returned (.string ⟨#[]⟩) ∧ Moves ρ H w ρ H w' := by
  have key : ∃ a c', v = .slice a 0 c' := by
    cases p with
    | none => simp only [VR] at hv; exact ⟨none, 0, hv.2.2⟩
    | some q =>
      obtain ⟨l, i, z⟩ := q
      simp only [VR] at hv
      obtain ⟨pl, a, c', _, _, e, _⟩ := hv
      exact ⟨_, _, e⟩
  obtain ⟨a, c', rfl⟩ := key
  refine (Any.strings_Join_none Tryd.lays156 Tryd.bextra156 a c' ⟨sep.toArray⟩ w).mono ?_
  rintro e w' ⟨he, rfl⟩
  exact ⟨he, Moves.refl ha⟩
theorem back_map (l : List (List UInt8)) : (l.map (fun s => (⟨s.toArray⟩ : ByteArray))).map (·.data.toList) = l := by
  induction l with
  | nil => rfl
  | cons x l ih => rw [List.map_cons, List.map_cons, ih]
theorem join_some {H : DH} {loc i n c : Nat} {ex ro : Bool} {rs : List (List DV)} {l : List (List UInt8)} {sep : List UInt8} (ho : H.obj loc = some (.rows ro 1 rs)) (hl : (rs.drop i).take n = l.map fun s => [DV.str s]) (hn : l.length = n) (h0 : 0 < n) (hm : n ≤ 1000000) (hlen : (joinF l sep).length ≤ 4294967296)
    {ρ : Rho} {w : World} (ha : Agree ρ H w) {v : Value} (hv : VR ρ (.sl (some (loc, i, 1)) n c ex) v) :
    Calls Tryd.prog 60 #[v, .string ⟨sep.toArray⟩] w fun e w' => e = .returned (.string ⟨(joinF l sep).toArray⟩) ∧ Moves ρ H w ρ H w' := by
  simp only [VR] at hv
  obtain ⟨pl, a, c', hp, hz, rfl, h1, h2, h3, h4, h5⟩ := hv
  obtain ⟨pl', hp', ho'⟩ := ha.obj loc _ ho
  rw [hp] at hp'; cases hp'
  have hb := ha.lies _ _ hp
  obtain rfl := h5.resolve_left (by omega)
  have e : pl.addr i 0 = ⟨pl.block, pl.off + i, none⟩ := by unfold Pl.addr; rw [hz]; simp
  rw [e]
  obtain ⟨hz', hlen', hrows, _⟩ := ho'
  obtain ⟨xs, hxs⟩ : ∃ xs : List ByteArray, l.map (fun s => (⟨s.toArray⟩ : ByteArray)) = xs := ⟨_, rfl⟩
  have hxl : xs.length = n := by rw [← hxs, List.length_map, hn]
  have hback : xs.map (·.data.toList) = l := by rw [← hxs]; exact back_map l
  have hcells : ∀ (j : Nat) x, xs[j]? = some x → w.cell? ⟨pl.block, pl.off + i + j, none⟩ = some (.string x) := by
    intro j x hx
    rw [← hxs, List.getElem?_map] at hx
    cases hlj : l[j]? with
    | none => rw [hlj] at hx; cases hx
    | some s =>
      rw [hlj] at hx
      cases hx
      have hrow : rs[i + j]? = some [DV.str s] := by
        have h := congrArg (fun z => z[j]?) hl
        simp only [List.getElem?_take, List.getElem?_drop, List.getElem?_map, hlj] at h
        have hj := (List.getElem?_eq_some_iff.mp hlj).1
        rw [if_pos (by omega)] at h
        exact h
      obtain ⟨_, cc, hc, hvr⟩ := (hrows _ _ hrow).2 0 _ rfl
      rw [VR_str_iff] at hvr
      subst hvr
      rw [cell?_eq, show pl.off + i + j = pl.off + (i + j) * 1 + 0 by omega]
      exact hc
  have hcon := Any.strings_Join Tryd.lays156 Tryd.bextra156 pl.block (pl.off + i) c' xs ⟨sep.toArray⟩ w hcells hb (by omega) (by omega) (by rw [hback]; show (joinF l sep).length ≤ _; omega)
  rw [hxl] at hcon
  refine Calls.mono (P := Tryd.prog) (f := 60) hcon ?_
  rintro e w' ⟨he, hbel⟩
  refine ⟨?_, moves_below ha hbel⟩
  rw [he, hback]
  rfl
theorem join60_ok : ExtSound Tryd.prog gJoin 60 := by
  intro args H r H' h ρ w vs ha hv
  unfold gJoin at h
  split at h
  · rename_i p n c ex sep
    simp only [VRs] at hv
    obtain ⟨v, r1, e1, h1, u, r2, e2, h2, e3⟩ := hv
    subst e2 e3
    have hvs : vs = #[v, u] := by rw [← Array.toArray_toList (xs := vs), e1]
    rw [VR_str_iff] at h2
    subst h2 hvs
    split at h
    · rename_i h0
      subst h0
      cases h
      refine callOk_of_calls Tryd.func60 (by kernel_rfl) rfl ((join_none ha h1).mono fun e w' he => ?_)
      obtain ⟨rfl, hmv⟩ := he
      exact ⟨ρ, VR_str_iff.mpr rfl, hmv⟩
    · rename_i h0
      split at h
      · rename_i loc i z
        split at h
        · rename_i ro sz rs ho
          split at h
          · rename_i hc
            obtain ⟨rfl, rfl, hm, hlen⟩ := hc
            split at h
            · rename_i l hl
              split at h
              · rename_i hj
                cases h
                have hl' := map_strsL hl
                have hn : l.length = n := by
                  have := congrArg List.length hl'
                  simp only [List.length_take, List.length_drop, List.length_map] at this
                  omega
                refine callOk_of_calls Tryd.func60 (by kernel_rfl) rfl ((join_some ho hl' hn (by omega) hm hj ha h1).mono fun e w' he => ?_)
                obtain ⟨rfl, hmv⟩ := he
                exact ⟨ρ, VR_str_iff.mpr rfl, hmv⟩
              · cases h
            · cases h
          · cases h
        · cases h
      · cases h
  · cases h
noncomputable def E6 : List (FuncId × G) := [(60, gJoin), (83, gNum), (96, gRead), (22, gLive), (106, gSet), (71, gUnits)]
theorem okE6 : ∀ f g, (f, g) ∈ E6 → ExtSound Tryd.prog g f := by
  intro f g h
  simp only [E6, List.mem_cons, List.not_mem_nil, or_false, Prod.mk.injEq] at h
  rcases h with ⟨rfl, rfl⟩ | ⟨rfl, rfl⟩ | ⟨rfl, rfl⟩ | ⟨rfl, rfl⟩ | ⟨rfl, rfl⟩ | ⟨rfl, rfl⟩
  · exact join60_ok
  · exact num83_ok
  · exact read96_ok
  · exact live22_ok
  · exact set106_ok
  · exact units71_ok
noncomputable def X6 : Ext := Xof L E6
theorem ok6 : ProgOk Tryd.prog X6 := progOk_of2 mixed okL add_code okE6
theorem up36 : ExtLe X3 X6 := extLe_more (M := []) (T := [(60, gJoin)]) (E := E3) (by decide +kernel)
theorem join60 {H : DH} {p : Option (Nat × Nat × Nat)} {c : Nat} {ex : Bool} {l : List (List UInt8)} {sep : List UInt8} {K : DV → DH → Prop} (hs : Sl H 1 (l.map fun s => [DV.str s]) p) (hm : l.length ≤ 1000000) (hlen : (joinF l sep).length ≤ 4294967296) (hK : K (.str (joinF l sep)) H) : CallWp Tryd.prog X6 60 [.sl p l.length c ex, .str sep] H K := by
  by_cases h0 : l.length = 0
  · obtain rfl : l = [] := List.length_eq_zero_iff.mp h0
    exact call_table (g := gJoin) rfl (r := .str []) (H' := H) rfl hK
  · cases hs with
    | nil h => exact absurd (by simpa using congrArg List.length h) h0
    | @«at» loc i ro rs h1 h2 h3 h4 =>
      rw [List.length_map] at h3 h4
      refine call_table (g := gJoin) rfl (r := .str (joinF l sep)) (H' := H) ?_ hK
      simp only [gJoin]
      rw [if_neg h0]
      simp only [h2]
      rw [if_pos ⟨trivial, trivial, hm, h3⟩, h4, strsL_map]
      simp only
      rw [if_pos hlen]
end Go.Det.C

/- Tokens stand at their places. -/
namespace Go.Det.C
open Go Go.Det Go.Proofs
set_option maxRecDepth 4000
set_option linter.unusedVariables false
set_option linter.unusedSimpArgs false
theorem get_zero (l : List UInt8) (k : Nat) : (ByteArray.mk l.toArray).get! (0 + k) = l[k]?.getD 0 := by
  show l.toArray[0 + k]! = _
  rw [Nat.zero_add, getElem!_def, List.getElem?_toArray]
  cases l[k]? <;> rfl
theorem decL_ascii {l : List UInt8} (h : l ≠ []) (hc : (decL l).1 < 128) : ∃ b m, l = b :: m ∧ b.toNat = (decL l).1 ∧ (decL l).2 = 1 ∧ l.drop (decL l).2 = m := by
  match l, h with
  | b :: m, _ =>
    have h0 : (decL (b :: m)).1 = b.toNat ∧ (decL (b :: m)).2 = 1 := by
      have g0 : ((b :: m)[0]?.getD 0).toNat = b.toNat := by simp
      revert hc
      unfold decL Utf8.decode
      simp only [get_zero, g0]
      split
      · intro _; exact ⟨rfl, rfl⟩
      · split
        · split
          · intro hc; simp only at hc; omega
          · intro hc; exact absurd hc (by decide)
        · split
          · split
            · rename_i h3
              intro hc
              simp only [Bool.and_eq_true, decide_eq_true_eq] at h3
              simp only at hc
              omega
            · intro hc; exact absurd hc (by decide)
          · split
            · split
              · rename_i h3
                intro hc
                simp only [Bool.and_eq_true, decide_eq_true_eq] at h3
                simp only at hc
                omega
              · intro hc; exact absurd hc (by decide)
            · intro hc; exact absurd hc (by decide)
    exact ⟨b, m, rfl, h0.1.symm, h0.2, by rw [h0.2]; rfl⟩
/-! ### what is cut stands there -/
/-- Tokens, as they stand in a text. -/
inductive Laid : List UInt8 → Int × Int → List (Tok × (Int × Int)) → Prop
  | nil {l p} : Laid l p []
  | skip {l p ts} : l ≠ [] → Laid (l.drop (decL l).2) (nextP p (decL l).1) ts → Laid l p ts
  | tok {l m : List UInt8} {p t ts} : l = t.s ++ m → t.s ≠ [] → (∀ x ∈ t.s, x.toNat < 128 ∧ x.toNat ≠ 10) → Laid m (p.1, p.2 + t.s.length) ts → Laid l p ((t, p) :: ts)
theorem fin_nil {c : Cu} (h : c.piece = []) : c.fin = c := by
  obtain ⟨toks, places, piece, a, rem, w, e⟩ := c
  simp only at h
  subst h
  rfl
theorem isLet_range {n : Int} (h : isLet n = true ∨ isDgt n = true) : 48 ≤ n ∧ n ≤ 122 := by
  unfold isLet isDgt at h
  simp only [Bool.and_eq_true, decide_eq_true_eq] at h
  omega
/-! ### where a byte stands -/
/-- A byte's place. -/
def whereG (l : List UInt8) (p : Int × Int) (k : Nat) : Int × Int :=
  if h : l = [] then p else if k < (decL l).2 then p else whereG (l.drop (decL l).2) (nextP p (decL l).1) (k - (decL l).2)
termination_by l.length
decreasing_by
  have h1 := decL_width h
  have h2 : 0 < l.length := List.length_pos_iff.mpr h
  rw [List.length_drop]; omega
/-- What the law looks at, one byte after the other. -/
inductive Good (s : List UInt8) : Nat → List (Tok × (Int × Int)) → Prop
  | nil {k} : Good s k []
  | skip {k x ts} : k < s.length → whereG s (1, 1) k ≠ x.2 → Good s (k + 1) (x :: ts) → Good s k (x :: ts)
  | tok {k x ts} : k < s.length → whereG s (1, 1) k = x.2 → x.1.s ≠ [] → k + x.1.s.length ≤ s.length → (s.drop k).take x.1.s.length = x.1.s → Good s (k + x.1.s.length) ts → Good s k (x :: ts)
end Go.Det.C

/- What is joined is cut as it was. -/
namespace Go.Det.C
open Go Go.Det Go.Proofs
set_option maxRecDepth 4000
set_option linter.unusedVariables false
set_option linter.unusedSimpArgs false
/-- A token's text, and what is wrong. -/
def textF (t : Tok) : List UInt8 × Int :=
  if t.k = 1 ∧ (t.n = 0 ∧ t.t = false) ∧ wordF t.s = true then (t.s, 0)
  else if t.k = 3 ∧ (t.n = 0 ∧ t.t = false) ∧ (t.s = [59] ∨ t.s = [123] ∨ t.s = [125]) then (t.s, 0)
  else if t.k ≠ 2 ∨ t.n ≤ -1000000000000000000 ∨ t.n ≥ 1000000000000000000 then ([], 1)
  else if t.t = true then (ptextF t.n, 0) else (decF t.n, 0)
/-- What a token is cut as. -/
def cutT (t : Tok) : Tok := if t.k = 2 then ⟨2, (textF t).1, t.n, t.t⟩ else t
def bareT (t : Tok) : Tok := if t.k = 2 then ⟨2, [], t.n, t.t⟩ else t
theorem bare_cut (t : Tok) : bareT (cutT t) = bareT t := by
  unfold bareT cutT
  by_cases h : t.k = 2
  · rw [if_pos h, if_pos rfl, if_pos h]
  · simp only [if_neg h]
theorem text_cut (t : Tok) : textF (cutT t) = textF t := by
  unfold cutT
  by_cases h : t.k = 2
  · rw [if_pos h]
    unfold textF
    simp [h]
  · rw [if_neg h]
/-! ### words -/
theorem wordL_piece : ∀ (n : Nat) (l : List UInt8) (f : Bool), l.length ≤ n → wordL f (runes l) = true → (∀ x ∈ l, pieceB x) ∧ (f = true → l ≠ [] → isLet ((l.headD 0).toNat : Int) = true) := by
  intro n
  induction n with
  | zero =>
    intro l f hl _
    obtain rfl : l = [] := List.length_eq_zero_iff.mp (by omega)
    exact ⟨fun x hx => (by cases hx), fun _ h => absurd rfl h⟩
  | succ n ih =>
    intro l f hl h
    by_cases hne : l = []
    · subst hne; exact ⟨fun x hx => (by cases hx), fun _ h => absurd rfl h⟩
    · have hw := decL_width hne
      rw [runes_cons hne] at h
      unfold wordL at h
      simp only [Bool.and_eq_true, Bool.or_eq_true] at h
      obtain ⟨h1, h2⟩ := h
      have hp : isLet (((decL l).1 : Nat) : Int) = true ∨ isDgt (((decL l).1 : Nat) : Int) = true := by
        rcases h1 with h1 | h1
        · exact .inl h1
        · exact .inr h1.2
      have hr := isLet_range hp
      obtain ⟨b, m, rfl, hbn, hw1, hdr⟩ := decL_ascii hne (by omega)
      rw [hdr] at h2
      obtain ⟨k1, _⟩ := ih m false (by simp at hl; omega) h2
      rw [← hbn] at hp h1
      refine ⟨fun x hx => ?_, fun hf _ => ?_⟩
      · rcases List.mem_cons.mp hx with rfl | hx
        · exact hp
        · exact k1 x hx
      · subst hf
        rcases h1 with h1 | h1
        · exact h1
        · simp at h1
theorem wordF_facts {s : List UInt8} (h : wordF s = true) : (∀ x ∈ s, pieceB x) ∧ isLet ((s.headD 0).toNat : Int) = true ∧ s ≠ [] ∧ s.length ≤ 16 := by
  unfold wordF at h
  simp only [Bool.and_eq_true, Bool.not_eq_true', beq_eq_false_iff_ne, decide_eq_true_eq] at h
  obtain ⟨h1, h2, h3⟩ := h
  obtain ⟨k1, k2⟩ := wordL_piece _ s true (Nat.le_refl _) h1
  exact ⟨k1, k2 rfl h2, h2, h3⟩
theorem fin_word {c : Cu} {w : List UInt8} (hw : c.piece = w) (hne : w ≠ []) (hl : isLet ((w.headD 0).toNat : Int) = true) (h16 : w.length ≤ 16) : c.fin = { c with toks := c.toks ++ [⟨1, w, 0, false⟩], places := c.places ++ [c.at'], piece := [] } := by
  unfold Cu.fin
  rw [hw, if_neg hne, if_neg (by rw [hl]; simp), if_neg (by omega)]
  rfl
/-! ### times -/
theorem pickU_facts (n : Nat) : ∃ ps : Int, unitF (pickU n).2 = some ps ∧ ps = ((pickU n).1 : Int) ∧ 0 < (pickU n).1 ∧ n / (pickU n).1 * (pickU n).1 = n := by
  unfold pickU
  by_cases h0 : n = 0
  · rw [if_pos h0]; subst h0; exact ⟨1, rfl, rfl, by decide, rfl⟩
  · rw [if_neg h0]
    by_cases h1 : n % 1000000000000 = 0
    · rw [if_pos h1]; exact ⟨1000000000000, rfl, rfl, by decide, by simp only; omega⟩
    · rw [if_neg h1]
      by_cases h2 : n % 1000000000 = 0
      · rw [if_pos h2]; exact ⟨1000000000, rfl, rfl, by decide, by simp only; omega⟩
      · rw [if_neg h2]
        by_cases h3 : n % 1000000 = 0
        · rw [if_pos h3]; exact ⟨1000000, rfl, rfl, by decide, by simp only; omega⟩
        · rw [if_neg h3]
          by_cases h4 : n % 1000 = 0
          · rw [if_pos h4]; exact ⟨1000, rfl, rfl, by decide, by simp only; omega⟩
          · rw [if_neg h4]; exact ⟨1, rfl, rfl, by decide, by simp only; omega⟩
theorem ptextF_eq (t : Int) : ptextF t = (if decide (t < 0) = true then 45 :: (decN (t.natAbs / (pickU t.natAbs).1) ++ (pickU t.natAbs).2) else decN (t.natAbs / (pickU t.natAbs).1) ++ (pickU t.natAbs).2) := by
  unfold ptextF sgnF
  by_cases h : t < 0
  · rw [if_pos h, if_pos (by simpa using h)]; simp
  · rw [if_neg h, if_neg (by simpa using h)]; simp
/-- What a piece's text is, and what it is cut as. -/
structure Cuts (w : List UInt8) (t : Tok) : Prop where
  piece : Piece w
  fin : ∀ c : Cu, c.piece = w → c.fin = { c with toks := c.toks ++ [t], places := c.places ++ [c.at'], piece := [] }
theorem cuts_dec {n : Int} (h : -1000000000000000000 < n ∧ n < 1000000000000000000) : Cuts (decF n) ⟨2, decF n, n, false⟩ := by
  have hdg := decN_dig _ _ (Nat.le_refl n.natAbs)
  have hdn := decN_ne n.natAbs
  have hh : isLet (((decF n).headD 0).toNat : Int) = false ∧ decF n ≠ [] := by rw [decF_eq]; exact num_head _ hdg hdn
  exact ⟨by rw [decF_eq]; exact num_piece _ hdg hdn (by simp), fun c hc => fin_num hc hh.2 hh.1 (numF_dec h)⟩
theorem cuts_time {n : Int} (h : -1000000000000000000 < n ∧ n < 1000000000000000000) : Cuts (ptextF n) ⟨2, ptextF n, n, true⟩ := by
  obtain ⟨ps, hu, hp, hp0, hmul⟩ := pickU_facts n.natAbs
  obtain ⟨m, hm⟩ : ∃ m, n.natAbs / (pickU n.natAbs).1 = m := ⟨_, rfl⟩
  have hml : m ≤ n.natAbs := by rw [← hm]; exact Nat.div_le_self _ _
  have hdg := decN_dig _ _ (Nat.le_refl m)
  have hdn := decN_ne m
  have hdl := decN_len 17 m (by omega)
  have hv := decN_val _ _ (Nat.le_refl m)
  rw [hm] at hmul
  have hmul' : (m : Int) * ps = (n.natAbs : Int) := by rw [hp]; exact_mod_cast hmul
  obtain ⟨_, _, hup, _⟩ := unitF_head hu
  have hn := numF_time (decide (n < 0)) (u := (pickU n.natAbs).2) hdg hdn hdl hu (by rw [hv, hmul']; omega)
  rw [hv] at hn
  have hval : (if decide (n < 0) = true then - (m : Int) else (m : Int)) * ps = n := by
    by_cases h : n < 0
    · rw [if_pos (by simpa using h), Int.neg_mul, hmul']; omega
    · rw [if_neg (by simpa using h), hmul']; omega
  rw [hval] at hn
  have hh := num_head (decide (n < 0)) (u := (pickU n.natAbs).2) hdg hdn
  have hpc := num_piece (decide (n < 0)) hdg hdn hup
  have e := ptextF_eq n
  rw [hm] at e
  rw [← e] at hn hh hpc
  exact ⟨hpc, fun c hc => fin_num hc hh.2 hh.1 hn⟩
theorem cuts_word {s : List UInt8} (h : wordF s = true) : Cuts s ⟨1, s, 0, false⟩ := by
  obtain ⟨h1, h2, h3, h4⟩ := wordF_facts h
  exact ⟨⟨false, s, rfl, h1, h3⟩, fun c hc => fin_word hc h3 h2 h4⟩
/-- A token's text is a sign's, or a piece's. -/
theorem text_cuts {t : Tok} (h : (textF t).2 = 0) : Cuts (textF t).1 (cutT t) ∨ (∃ x, (x = 59 ∨ x = 123 ∨ x = 125) ∧ (textF t).1 = [x] ∧ cutT t = ⟨3, [x], 0, false⟩) := by
  obtain ⟨k, s, n, tm⟩ := t
  unfold cutT
  unfold textF at h ⊢
  simp only at h ⊢
  by_cases h1 : k = 1 ∧ (n = 0 ∧ tm = false) ∧ wordF s = true
  · rw [if_pos h1]
    obtain ⟨rfl, ⟨rfl, rfl⟩, hw⟩ := h1
    rw [if_neg (by decide)]
    exact .inl (cuts_word hw)
  · rw [if_neg h1] at h ⊢
    by_cases h2 : k = 3 ∧ (n = 0 ∧ tm = false) ∧ (s = [59] ∨ s = [123] ∨ s = [125])
    · rw [if_pos h2]
      obtain ⟨rfl, ⟨rfl, rfl⟩, hs⟩ := h2
      rw [if_neg (by decide)]
      right
      rcases hs with rfl | rfl | rfl
      · exact ⟨59, .inl rfl, rfl, rfl⟩
      · exact ⟨123, .inr (.inl rfl), rfl, rfl⟩
      · exact ⟨125, .inr (.inr rfl), rfl, rfl⟩
    · rw [if_neg h2] at h ⊢
      by_cases h3 : k ≠ 2 ∨ n ≤ -1000000000000000000 ∨ n ≥ 1000000000000000000
      · rw [if_pos h3] at h; cases h
      · rw [if_neg h3] at h ⊢
        have hk : k = 2 := by omega
        subst hk
        rw [if_pos rfl]
        left
        cases tm with
        | true => exact cuts_time (by omega)
        | false => exact cuts_dec (by omega)
theorem joinF_cons (x : List UInt8) (y : List UInt8) (r : List (List UInt8)) : joinF (x :: y :: r) [32] = x ++ 32 :: joinF (y :: r) [32] := by
  unfold joinF
  rw [Lib.join_cons, Lib.join_cons]
  simp [Lib.joinTail]
theorem joinF_one (x : List UInt8) : joinF [x] [32] = x := by unfold joinF; exact Lib.join_one x _
theorem go_join : ∀ (l : List Tok) (c : Cu) (p : Int × Int), (∀ t ∈ l, (textF t).2 = 0) → c.remark = false → c.e = 0 → c.piece = [] →
    (goR (runes (joinF (l.map fun t => (textF t).1) [32])) c p).e = 0 ∧ (goR (runes (joinF (l.map fun t => (textF t).1) [32])) c p).toks = c.toks ++ l.map cutT ∧ (goR (runes (joinF (l.map fun t => (textF t).1) [32])) c p).places.length = c.places.length + l.length := by
  intro l
  induction l with
  | nil =>
    intro c p _ hr he hp
    show (goR (runes []) c p).e = 0 ∧ _
    rw [List.map_nil, List.map_nil]
    show (goR (runes []) c p).e = 0 ∧ (goR (runes []) c p).toks = _ ∧ (goR (runes []) c p).places.length = _
    rw [runes_nil]
    show c.fin.e = 0 ∧ c.fin.toks = _ ∧ c.fin.places.length = _
    rw [fin_nil hp, List.append_nil]
    exact ⟨he, rfl, rfl⟩
  | cons t l ih =>
    intro c p h hr he hp
    have ht := h t List.mem_cons_self
    have hl : ∀ t ∈ l, (textF t).2 = 0 := fun x hx => h x (List.mem_cons_of_mem _ hx)
    -- what comes behind the first
    have tail : ∀ (c' : Cu) (p' : Int × Int), c'.remark = false → c'.fin = { c with toks := c.toks ++ [cutT t], places := c.places ++ [c'.at'], piece := [], at' := c'.at' } → ∀ m : List UInt8, (l = [] ∧ m = [] ∨ ∃ y r, l = y :: r ∧ m = 32 :: joinF (l.map fun t => (textF t).1) [32]) →
        (goR (runes m) c' p').e = 0 ∧ (goR (runes m) c' p').toks = c.toks ++ (t :: l).map cutT ∧ (goR (runes m) c' p').places.length = c.places.length + (t :: l).length := by
      intro c' p' hr' hf m hm
      rcases hm with ⟨rfl, rfl⟩ | ⟨y, r, hl', rfl⟩
      · rw [runes_nil]
        show c'.fin.e = 0 ∧ c'.fin.toks = _ ∧ c'.fin.places.length = _
        rw [hf]
        exact ⟨he, rfl, by simp⟩
      · obtain ⟨p2, h2⟩ := go_space (m := joinF (l.map fun t => (textF t).1) [32]) (c := c') (p := p') hr' (by rw [hf]; exact he)
        rw [h2]
        obtain ⟨k1, k2, k3⟩ := ih c'.fin p2 hl (by rw [hf]; exact hr) (by rw [hf]; exact he) (by rw [hf])
        refine ⟨k1, ?_, ?_⟩
        · rw [k2, hf]; simp
        · rw [k3, hf]; simp; omega
    obtain ⟨m, hm, hjo⟩ : ∃ m : List UInt8, (l = [] ∧ m = [] ∨ ∃ y r, l = y :: r ∧ m = 32 :: joinF (l.map fun t => (textF t).1) [32]) ∧ joinF ((t :: l).map fun t => (textF t).1) [32] = (textF t).1 ++ m := by
      cases l with
      | nil => exact ⟨[], .inl ⟨rfl, rfl⟩, by rw [List.map_cons, List.map_nil, joinF_one, List.append_nil]⟩
      | cons y r => exact ⟨_, .inr ⟨y, r, rfl, rfl⟩, by rw [List.map_cons, List.map_cons, joinF_cons]⟩
    rw [hjo]
    rcases text_cuts ht with hc | ⟨x, hx, hx1, hx2⟩
    · obtain ⟨p', h1⟩ := go_word (m := m) hc.piece (c := c) p hr he hp
      rw [h1]
      exact tail { c with piece := (textF t).1, at' := p } p' hr (hc.fin _ rfl) m hm
    · rw [hx1]
      obtain ⟨p', h1⟩ := go_sign (m := m) hx (c := c) (p := p) hr (by rw [fin_nil hp]; exact he)
      rw [List.cons_append, List.nil_append, h1, fin_nil hp]
      -- a sign is added at once
      have hf : (c.add ⟨3, [x], 0, false⟩ p).fin = c.add ⟨3, [x], 0, false⟩ p := fin_nil hp
      rcases hm with ⟨rfl, rfl⟩ | ⟨y, r, hl', rfl⟩
      · rw [runes_nil]
        show (c.add ⟨3, [x], 0, false⟩ p).fin.e = 0 ∧ (c.add ⟨3, [x], 0, false⟩ p).fin.toks = _ ∧ (c.add ⟨3, [x], 0, false⟩ p).fin.places.length = _
        rw [hf]
        refine ⟨he, ?_, by unfold Cu.add; simp⟩
        rw [List.map_cons, hx2]
        rfl
      · obtain ⟨p2, h2⟩ := go_space (m := joinF (l.map fun t => (textF t).1) [32]) (c := c.add ⟨3, [x], 0, false⟩ p) (p := p') hr (by rw [hf]; exact he)
        rw [h2, hf]
        obtain ⟨k1, k2, k3⟩ := ih (c.add ⟨3, [x], 0, false⟩ p) p2 hl hr he hp
        refine ⟨k1, ?_, ?_⟩
        · rw [k2, List.map_cons, hx2]; unfold Cu.add; simp
        · rw [k3]; unfold Cu.add; simp; omega
/-- What is joined is cut as it was. -/
theorem back {l : List Tok} (h : ∀ t ∈ l, (textF t).2 = 0) : (cutF (joinF (l.map fun t => (textF t).1) [32])).e = 0 ∧ (cutF (joinF (l.map fun t => (textF t).1) [32])).toks = l.map cutT ∧ (cutF (joinF (l.map fun t => (textF t).1) [32])).places.length = l.length := by
  obtain ⟨h1, h2, h3⟩ := go_join l cu0 (1, 1) h rfl rfl rfl
  refine ⟨h1, h2, ?_⟩
  unfold cutF
  rw [h3]
  show 0 + _ = _
  omega
end Go.Det.C

/- Tokens' texts, joined. -/
namespace Go.Det.C
open Go Go.Det Go.Proofs
set_option maxRecDepth 4000
set_option maxHeartbeats 4000000
set_option linter.unusedVariables false
set_option linter.unusedSimpArgs false
section
variable {A H : DH} {bs : List (Nat × DObj)} {fs : List (DH → Prop)} {K : DV → DH → Prop}
/-- A token's text. -/
theorem text27 {t : Tok} (hs : t.s.length ≤ 65536) (hB : Bx A H bs fs) (hK : ∀ H', Bx A H' bs fs → K (.tuple [.str (textF t).1, .int .i64 (textF t).2]) H') : CallWp Tryd.prog X3 27 [.agg t.row] H K := by
  obtain ⟨k, s, n, tm⟩ := t
  have heq := eqTok ⟨k, s, n, tm⟩ ⟨k, s, 0, false⟩
  obtain ⟨pl, hpl⟩ : ∃ pl, decide ((⟨k, s, n, tm⟩ : Tok) = ⟨k, s, 0, false⟩) = pl := ⟨_, rfl⟩
  rw [hpl] at heq
  have hpl' : (n = 0 ∧ tm = false) ↔ pl = true := by rw [← hpl]; simp
  unfold textF at hK
  simp only at hs hK
  cases hk1 : (k == 1) with
  | true =>
    obtain rfl : k = 1 := by simpa using hk1
    have hk3 : ((1 : Int) == 3) = false := rfl
    have hk2 : ((1 : Int) != 2) = true := rfl
    cases pl with
    | true =>
      have hp := hpl'.mpr rfl
      cases hw : wordF s with
      | true =>
        rw [if_pos ⟨rfl, hp, hw⟩] at hK
        refine enter rfl Tryd.func27 rfl Tryd.ntmps27 rfl ?_
        dsimp only [List.cons_append, List.nil_append, List.length_cons, List.length_nil, List.replicate_succ, List.replicate_zero, Nat.reduceAdd, Nat.reduceSub]
        repeat' (first
          | dsimp only [putD, DV.cells, DH.new_next, DH.set_next, List.length_cons, List.length_nil, Nat.reduceAdd, List.set_cons_zero, List.set_cons_succ, getD_zero, getD_succ, fieldAt_zero, fieldAt_succ, thenD, blockD, retR]
          | apply dwp_seq
          | apply dwp_region
          | apply ops_nil
          | (apply ops_plain; (· exact rfl))
          | (apply ops_on; (· exact rfl); (· exact rfl); (· (first | with_reducible assumption | with_reducible rfl | decide)))
          | (apply op_call; (· exact rfl); (· exact rfl); (· exact rfl); (apply word33 (s := s); (· exact hs); (· assumption); intro H1 hB; rw [hw]))
          | (apply op_pick_t; (· exact rfl); (· exact rfl); (· (first | with_reducible assumption | with_reducible rfl | decide)); (· exact rfl))
          | (apply op_at; (· exact opD_eql rfl rfl rfl heq))
          | (apply bx_load0; (· exact rfl); (· exact rfl); (· assumption); (· (repeat (first | with_reducible exact At.here | with_reducible apply At.there | with_reducible apply at_app))); (· (first | exact part57 _ _ _ _ | exact rfl)))
          | (apply bx_box; (· exact rfl); (· exact rfl); (· (first | (dsimp only [putD, DV.cells, DH.new_next, DH.set_next, List.length_cons, List.length_nil, Nat.reduceAdd, List.set_cons_zero, List.set_cons_succ, getD_zero, getD_succ, fieldAt_zero, fieldAt_succ, thenD, blockD, retR, Sv.cells]; done) | (dsimp only [putD, DV.cells, DH.new_next, DH.set_next, List.length_cons, List.length_nil, Nat.reduceAdd, List.set_cons_zero, List.set_cons_succ, getD_zero, getD_succ, fieldAt_zero, fieldAt_succ, thenD, blockD, retR, Sv.cells]; exact rfl) | exact rfl)); (· exact rfl); (· exact rfl); (· assumption); intro b1 H1 hB)
          | (apply op_at; (· exact rfl))
          | (apply dwp_cond_t; (· exact rfl); (· (first | with_reducible assumption | with_reducible rfl | decide)))
          | apply dwp_block
          | apply dwp_ret
          | (refine ⟨_, rfl, ?_⟩)
          | fail)
        exact hK _ (hB.sub (by (repeat (first | exact List.Sublist.refl _ | exact List.nil_sublist _ | apply List.Sublist.cons_cons | apply List.Sublist.cons | apply List.Sublist.append_left | refine List.Sublist.trans ?_ (List.sublist_append_right _ _)))))
      | false =>
        rw [if_neg (fun h => by rw [hw] at h; cases h.2.2), if_neg (fun h => by cases h.1), if_pos (.inl (by decide))] at hK
        refine enter rfl Tryd.func27 rfl Tryd.ntmps27 rfl ?_
        dsimp only [List.cons_append, List.nil_append, List.length_cons, List.length_nil, List.replicate_succ, List.replicate_zero, Nat.reduceAdd, Nat.reduceSub]
        repeat' (first
          | dsimp only [putD, DV.cells, DH.new_next, DH.set_next, List.length_cons, List.length_nil, Nat.reduceAdd, List.set_cons_zero, List.set_cons_succ, getD_zero, getD_succ, fieldAt_zero, fieldAt_succ, thenD, blockD, retR]
          | apply dwp_seq
          | apply dwp_region
          | apply ops_nil
          | (apply ops_plain; (· exact rfl))
          | (apply ops_on; (· exact rfl); (· exact rfl); (· (first | with_reducible assumption | with_reducible rfl | decide)))
          | (apply ops_off1; (· exact rfl); (· exact rfl); (· (first | with_reducible assumption | with_reducible rfl | decide)))
          | (apply ops_off0; (· exact rfl); (· exact rfl); (· (first | with_reducible assumption | with_reducible rfl | decide)))
          | (apply ops_offn; (· exact rfl); (· exact rfl))
          | (apply op_call; (· exact rfl); (· exact rfl); (· exact rfl); (apply word33 (s := s); (· exact hs); (· assumption); intro H1 hB; rw [hw]))
          | (apply op_pick_t; (· exact rfl); (· exact rfl); (· (first | with_reducible assumption | with_reducible rfl | decide)); (· exact rfl))
          | (apply op_pick_f; (· exact rfl); (· exact rfl); (· (first | with_reducible assumption | with_reducible rfl | decide)); (· exact rfl))
          | (apply op_at; (· exact opD_eql rfl rfl rfl heq))
          | (apply bx_load0; (· exact rfl); (· exact rfl); (· assumption); (· (repeat (first | with_reducible exact At.here | with_reducible apply At.there | with_reducible apply at_app))); (· (first | exact part57 _ _ _ _ | exact rfl)))
          | (apply bx_box; (· exact rfl); (· exact rfl); (· (first | (dsimp only [putD, DV.cells, DH.new_next, DH.set_next, List.length_cons, List.length_nil, Nat.reduceAdd, List.set_cons_zero, List.set_cons_succ, getD_zero, getD_succ, fieldAt_zero, fieldAt_succ, thenD, blockD, retR, Sv.cells]; done) | (dsimp only [putD, DV.cells, DH.new_next, DH.set_next, List.length_cons, List.length_nil, Nat.reduceAdd, List.set_cons_zero, List.set_cons_succ, getD_zero, getD_succ, fieldAt_zero, fieldAt_succ, thenD, blockD, retR, Sv.cells]; exact rfl) | exact rfl)); (· exact rfl); (· exact rfl); (· assumption); intro b1 H1 hB)
          | (apply op_at; (· exact rfl))
          | (apply dwp_cond_t; (· exact rfl); (· (first | with_reducible assumption | with_reducible rfl | decide)))
          | (apply dwp_cond_f; (· exact rfl); (· (first | with_reducible assumption | with_reducible rfl | decide)))
          | apply dwp_block
          | apply dwp_ret
          | (refine ⟨_, rfl, ?_⟩)
          | fail)
        exact hK _ (hB.sub (by (repeat (first | exact List.Sublist.refl _ | exact List.nil_sublist _ | apply List.Sublist.cons_cons | apply List.Sublist.cons | apply List.Sublist.append_left | refine List.Sublist.trans ?_ (List.sublist_append_right _ _)))))
    | false =>
      rw [if_neg (fun h => by have := hpl'.mp h.2.1; cases this), if_neg (fun h => by cases h.1), if_pos (.inl (by decide))] at hK
      refine enter rfl Tryd.func27 rfl Tryd.ntmps27 rfl ?_
      dsimp only [List.cons_append, List.nil_append, List.length_cons, List.length_nil, List.replicate_succ, List.replicate_zero, Nat.reduceAdd, Nat.reduceSub]
      repeat' (first
        | dsimp only [putD, DV.cells, DH.new_next, DH.set_next, List.length_cons, List.length_nil, Nat.reduceAdd, List.set_cons_zero, List.set_cons_succ, getD_zero, getD_succ, fieldAt_zero, fieldAt_succ, thenD, blockD, retR]
        | apply dwp_seq
        | apply dwp_region
        | apply ops_nil
        | (apply ops_plain; (· exact rfl))
        | (apply ops_on; (· exact rfl); (· exact rfl); (· (first | with_reducible assumption | with_reducible rfl | decide)))
        | (apply ops_off1; (· exact rfl); (· exact rfl); (· (first | with_reducible assumption | with_reducible rfl | decide)))
        | (apply ops_off0; (· exact rfl); (· exact rfl); (· (first | with_reducible assumption | with_reducible rfl | decide)))
        | (apply ops_offn; (· exact rfl); (· exact rfl))
        | (apply op_pick_t; (· exact rfl); (· exact rfl); (· (first | with_reducible assumption | with_reducible rfl | decide)); (· exact rfl))
        | (apply op_pick_f; (· exact rfl); (· exact rfl); (· (first | with_reducible assumption | with_reducible rfl | decide)); (· exact rfl))
        | (apply op_at; (· exact opD_eql rfl rfl rfl heq))
        | (apply bx_load0; (· exact rfl); (· exact rfl); (· assumption); (· (repeat (first | with_reducible exact At.here | with_reducible apply At.there | with_reducible apply at_app))); (· (first | exact part57 _ _ _ _ | exact rfl)))
        | (apply bx_box; (· exact rfl); (· exact rfl); (· (first | (dsimp only [putD, DV.cells, DH.new_next, DH.set_next, List.length_cons, List.length_nil, Nat.reduceAdd, List.set_cons_zero, List.set_cons_succ, getD_zero, getD_succ, fieldAt_zero, fieldAt_succ, thenD, blockD, retR, Sv.cells]; done) | (dsimp only [putD, DV.cells, DH.new_next, DH.set_next, List.length_cons, List.length_nil, Nat.reduceAdd, List.set_cons_zero, List.set_cons_succ, getD_zero, getD_succ, fieldAt_zero, fieldAt_succ, thenD, blockD, retR, Sv.cells]; exact rfl) | exact rfl)); (· exact rfl); (· exact rfl); (· assumption); intro b1 H1 hB)
        | (apply op_at; (· exact rfl))
        | (apply dwp_cond_t; (· exact rfl); (· (first | with_reducible assumption | with_reducible rfl | decide)))
        | (apply dwp_cond_f; (· exact rfl); (· (first | with_reducible assumption | with_reducible rfl | decide)))
        | apply dwp_block
        | apply dwp_ret
        | (refine ⟨_, rfl, ?_⟩)
        | fail)
      exact hK _ (hB.sub (by (repeat (first | exact List.Sublist.refl _ | exact List.nil_sublist _ | apply List.Sublist.cons_cons | apply List.Sublist.cons | apply List.Sublist.append_left | refine List.Sublist.trans ?_ (List.sublist_append_right _ _)))))
  | false =>
    have hk1' : k ≠ 1 := by simpa using hk1
    cases hk3 : (k == 3) with
    | true =>
      obtain rfl : k = 3 := by simpa using hk3
      have hk2 : ((3 : Int) != 2) = true := rfl
      cases pl with
      | true =>
        have hp := hpl'.mpr rfl
        cases ha : (s == [59]) with
        | true =>
          have ha' : s = [59] := by simpa using ha
          rw [if_neg (fun h => by cases h.1), if_pos ⟨rfl, hp, .inl ha'⟩] at hK
          refine enter rfl Tryd.func27 rfl Tryd.ntmps27 rfl ?_
          dsimp only [List.cons_append, List.nil_append, List.length_cons, List.length_nil, List.replicate_succ, List.replicate_zero, Nat.reduceAdd, Nat.reduceSub]
          repeat' (first
            | dsimp only [putD, DV.cells, DH.new_next, DH.set_next, List.length_cons, List.length_nil, Nat.reduceAdd, List.set_cons_zero, List.set_cons_succ, getD_zero, getD_succ, fieldAt_zero, fieldAt_succ, thenD, blockD, retR]
            | apply dwp_seq
            | apply dwp_region
            | apply ops_nil
            | (apply ops_plain; (· exact rfl))
            | (apply ops_on; (· exact rfl); (· exact rfl); (· (first | with_reducible assumption | with_reducible rfl | decide)))
            | (apply ops_off1; (· exact rfl); (· exact rfl); (· (first | with_reducible assumption | with_reducible rfl | decide)))
            | (apply ops_off0; (· exact rfl); (· exact rfl); (· (first | with_reducible assumption | with_reducible rfl | decide)))
            | (apply op_pick_t; (· exact rfl); (· exact rfl); (· (first | with_reducible assumption | with_reducible rfl | decide)); (· exact rfl))
            | (apply op_pick_f; (· exact rfl); (· exact rfl); (· (first | with_reducible assumption | with_reducible rfl | decide)); (· exact rfl))
            | (apply op_at; (· exact opD_eql rfl rfl rfl heq))
            | (apply bx_load0; (· exact rfl); (· exact rfl); (· assumption); (· (repeat (first | with_reducible exact At.here | with_reducible apply At.there | with_reducible apply at_app))); (· (first | exact part57 _ _ _ _ | exact rfl)))
            | (apply bx_box; (· exact rfl); (· exact rfl); (· (first | (dsimp only [putD, DV.cells, DH.new_next, DH.set_next, List.length_cons, List.length_nil, Nat.reduceAdd, List.set_cons_zero, List.set_cons_succ, getD_zero, getD_succ, fieldAt_zero, fieldAt_succ, thenD, blockD, retR, Sv.cells]; done) | (dsimp only [putD, DV.cells, DH.new_next, DH.set_next, List.length_cons, List.length_nil, Nat.reduceAdd, List.set_cons_zero, List.set_cons_succ, getD_zero, getD_succ, fieldAt_zero, fieldAt_succ, thenD, blockD, retR, Sv.cells]; exact rfl) | exact rfl)); (· exact rfl); (· exact rfl); (· assumption); intro b1 H1 hB)
            | (apply op_at; (· exact rfl))
            | (apply dwp_cond_t; (· exact rfl); (· (first | with_reducible assumption | with_reducible rfl | decide)))
            | (apply dwp_cond_f; (· exact rfl); (· (first | with_reducible assumption | with_reducible rfl | decide)))
            | apply dwp_block
            | apply dwp_ret
            | (refine ⟨_, rfl, ?_⟩)
            | fail)
          exact hK _ (hB.sub (by (repeat (first | exact List.Sublist.refl _ | exact List.nil_sublist _ | apply List.Sublist.cons_cons | apply List.Sublist.cons | apply List.Sublist.append_left | refine List.Sublist.trans ?_ (List.sublist_append_right _ _)))))
        | false =>
          cases hb3 : (s == [123]) with
          | true =>
            have hb' : s = [123] := by simpa using hb3
            rw [if_neg (fun h => by cases h.1), if_pos ⟨rfl, hp, .inr (.inl hb')⟩] at hK
            refine enter rfl Tryd.func27 rfl Tryd.ntmps27 rfl ?_
            dsimp only [List.cons_append, List.nil_append, List.length_cons, List.length_nil, List.replicate_succ, List.replicate_zero, Nat.reduceAdd, Nat.reduceSub]
            repeat' (first
              | dsimp only [putD, DV.cells, DH.new_next, DH.set_next, List.length_cons, List.length_nil, Nat.reduceAdd, List.set_cons_zero, List.set_cons_succ, getD_zero, getD_succ, fieldAt_zero, fieldAt_succ, thenD, blockD, retR]
              | apply dwp_seq
              | apply dwp_region
              | apply ops_nil
              | (apply ops_plain; (· exact rfl))
              | (apply ops_on; (· exact rfl); (· exact rfl); (· (first | with_reducible assumption | with_reducible rfl | decide)))
              | (apply ops_off1; (· exact rfl); (· exact rfl); (· (first | with_reducible assumption | with_reducible rfl | decide)))
              | (apply ops_off0; (· exact rfl); (· exact rfl); (· (first | with_reducible assumption | with_reducible rfl | decide)))
              | (apply op_pick_t; (· exact rfl); (· exact rfl); (· (first | with_reducible assumption | with_reducible rfl | decide)); (· exact rfl))
              | (apply op_pick_f; (· exact rfl); (· exact rfl); (· (first | with_reducible assumption | with_reducible rfl | decide)); (· exact rfl))
              | (apply op_at; (· exact opD_eql rfl rfl rfl heq))
              | (apply bx_load0; (· exact rfl); (· exact rfl); (· assumption); (· (repeat (first | with_reducible exact At.here | with_reducible apply At.there | with_reducible apply at_app))); (· (first | exact part57 _ _ _ _ | exact rfl)))
              | (apply bx_box; (· exact rfl); (· exact rfl); (· (first | (dsimp only [putD, DV.cells, DH.new_next, DH.set_next, List.length_cons, List.length_nil, Nat.reduceAdd, List.set_cons_zero, List.set_cons_succ, getD_zero, getD_succ, fieldAt_zero, fieldAt_succ, thenD, blockD, retR, Sv.cells]; done) | (dsimp only [putD, DV.cells, DH.new_next, DH.set_next, List.length_cons, List.length_nil, Nat.reduceAdd, List.set_cons_zero, List.set_cons_succ, getD_zero, getD_succ, fieldAt_zero, fieldAt_succ, thenD, blockD, retR, Sv.cells]; exact rfl) | exact rfl)); (· exact rfl); (· exact rfl); (· assumption); intro b1 H1 hB)
              | (apply op_at; (· exact rfl))
              | (apply dwp_cond_t; (· exact rfl); (· (first | with_reducible assumption | with_reducible rfl | decide)))
              | (apply dwp_cond_f; (· exact rfl); (· (first | with_reducible assumption | with_reducible rfl | decide)))
              | apply dwp_block
              | apply dwp_ret
              | (refine ⟨_, rfl, ?_⟩)
              | fail)
            exact hK _ (hB.sub (by (repeat (first | exact List.Sublist.refl _ | exact List.nil_sublist _ | apply List.Sublist.cons_cons | apply List.Sublist.cons | apply List.Sublist.append_left | refine List.Sublist.trans ?_ (List.sublist_append_right _ _)))))
          | false =>
            cases hc3 : (s == [125]) with
            | true =>
              have hc' : s = [125] := by simpa using hc3
              rw [if_neg (fun h => by cases h.1), if_pos ⟨rfl, hp, .inr (.inr hc')⟩] at hK
              refine enter rfl Tryd.func27 rfl Tryd.ntmps27 rfl ?_
              dsimp only [List.cons_append, List.nil_append, List.length_cons, List.length_nil, List.replicate_succ, List.replicate_zero, Nat.reduceAdd, Nat.reduceSub]
              repeat' (first
                | dsimp only [putD, DV.cells, DH.new_next, DH.set_next, List.length_cons, List.length_nil, Nat.reduceAdd, List.set_cons_zero, List.set_cons_succ, getD_zero, getD_succ, fieldAt_zero, fieldAt_succ, thenD, blockD, retR]
                | apply dwp_seq
                | apply dwp_region
                | apply ops_nil
                | (apply ops_plain; (· exact rfl))
                | (apply ops_on; (· exact rfl); (· exact rfl); (· (first | with_reducible assumption | with_reducible rfl | decide)))
                | (apply ops_off1; (· exact rfl); (· exact rfl); (· (first | with_reducible assumption | with_reducible rfl | decide)))
                | (apply op_pick_t; (· exact rfl); (· exact rfl); (· (first | with_reducible assumption | with_reducible rfl | decide)); (· exact rfl))
                | (apply op_pick_f; (· exact rfl); (· exact rfl); (· (first | with_reducible assumption | with_reducible rfl | decide)); (· exact rfl))
                | (apply op_at; (· exact opD_eql rfl rfl rfl heq))
                | (apply bx_load0; (· exact rfl); (· exact rfl); (· assumption); (· (repeat (first | with_reducible exact At.here | with_reducible apply At.there | with_reducible apply at_app))); (· (first | exact part57 _ _ _ _ | exact rfl)))
                | (apply bx_box; (· exact rfl); (· exact rfl); (· (first | (dsimp only [putD, DV.cells, DH.new_next, DH.set_next, List.length_cons, List.length_nil, Nat.reduceAdd, List.set_cons_zero, List.set_cons_succ, getD_zero, getD_succ, fieldAt_zero, fieldAt_succ, thenD, blockD, retR, Sv.cells]; done) | (dsimp only [putD, DV.cells, DH.new_next, DH.set_next, List.length_cons, List.length_nil, Nat.reduceAdd, List.set_cons_zero, List.set_cons_succ, getD_zero, getD_succ, fieldAt_zero, fieldAt_succ, thenD, blockD, retR, Sv.cells]; exact rfl) | exact rfl)); (· exact rfl); (· exact rfl); (· assumption); intro b1 H1 hB)
                | (apply op_at; (· exact rfl))
                | (apply dwp_cond_t; (· exact rfl); (· (first | with_reducible assumption | with_reducible rfl | decide)))
                | (apply dwp_cond_f; (· exact rfl); (· (first | with_reducible assumption | with_reducible rfl | decide)))
                | apply dwp_block
                | apply dwp_ret
                | (refine ⟨_, rfl, ?_⟩)
                | fail)
              exact hK _ (hB.sub (by (repeat (first | exact List.Sublist.refl _ | exact List.nil_sublist _ | apply List.Sublist.cons_cons | apply List.Sublist.cons | apply List.Sublist.append_left | refine List.Sublist.trans ?_ (List.sublist_append_right _ _)))))
            | false =>
              have hno : ¬ (s = [59] ∨ s = [123] ∨ s = [125]) := by
                rintro (h | h | h) <;> subst h <;> simp at ha hb3 hc3
              rw [if_neg (fun h => by cases h.1), if_neg (fun h => by exact hno h.2.2), if_pos (.inl (by decide))] at hK
              refine enter rfl Tryd.func27 rfl Tryd.ntmps27 rfl ?_
              dsimp only [List.cons_append, List.nil_append, List.length_cons, List.length_nil, List.replicate_succ, List.replicate_zero, Nat.reduceAdd, Nat.reduceSub]
              repeat' (first
                | dsimp only [putD, DV.cells, DH.new_next, DH.set_next, List.length_cons, List.length_nil, Nat.reduceAdd, List.set_cons_zero, List.set_cons_succ, getD_zero, getD_succ, fieldAt_zero, fieldAt_succ, thenD, blockD, retR]
                | apply dwp_seq
                | apply dwp_region
                | apply ops_nil
                | (apply ops_plain; (· exact rfl))
                | (apply ops_on; (· exact rfl); (· exact rfl); (· (first | with_reducible assumption | with_reducible rfl | decide)))
                | (apply ops_off1; (· exact rfl); (· exact rfl); (· (first | with_reducible assumption | with_reducible rfl | decide)))
                | (apply ops_off0; (· exact rfl); (· exact rfl); (· (first | with_reducible assumption | with_reducible rfl | decide)))
                | (apply op_pick_t; (· exact rfl); (· exact rfl); (· (first | with_reducible assumption | with_reducible rfl | decide)); (· exact rfl))
                | (apply op_pick_f; (· exact rfl); (· exact rfl); (· (first | with_reducible assumption | with_reducible rfl | decide)); (· exact rfl))
                | (apply op_at; (· exact opD_eql rfl rfl rfl heq))
                | (apply bx_load0; (· exact rfl); (· exact rfl); (· assumption); (· (repeat (first | with_reducible exact At.here | with_reducible apply At.there | with_reducible apply at_app))); (· (first | exact part57 _ _ _ _ | exact rfl)))
                | (apply bx_box; (· exact rfl); (· exact rfl); (· (first | (dsimp only [putD, DV.cells, DH.new_next, DH.set_next, List.length_cons, List.length_nil, Nat.reduceAdd, List.set_cons_zero, List.set_cons_succ, getD_zero, getD_succ, fieldAt_zero, fieldAt_succ, thenD, blockD, retR, Sv.cells]; done) | (dsimp only [putD, DV.cells, DH.new_next, DH.set_next, List.length_cons, List.length_nil, Nat.reduceAdd, List.set_cons_zero, List.set_cons_succ, getD_zero, getD_succ, fieldAt_zero, fieldAt_succ, thenD, blockD, retR, Sv.cells]; exact rfl) | exact rfl)); (· exact rfl); (· exact rfl); (· assumption); intro b1 H1 hB)
                | (apply op_at; (· exact rfl))
                | (apply dwp_cond_t; (· exact rfl); (· (first | with_reducible assumption | with_reducible rfl | decide)))
                | (apply dwp_cond_f; (· exact rfl); (· (first | with_reducible assumption | with_reducible rfl | decide)))
                | apply dwp_block
                | apply dwp_ret
                | (refine ⟨_, rfl, ?_⟩)
                | fail)
              exact hK _ (hB.sub (by (repeat (first | exact List.Sublist.refl _ | exact List.nil_sublist _ | apply List.Sublist.cons_cons | apply List.Sublist.cons | apply List.Sublist.append_left | refine List.Sublist.trans ?_ (List.sublist_append_right _ _)))))
      | false =>
        rw [if_neg (fun h => by cases h.1), if_neg (fun h => by have := hpl'.mp h.2.1; cases this), if_pos (.inl (by decide))] at hK
        refine enter rfl Tryd.func27 rfl Tryd.ntmps27 rfl ?_
        dsimp only [List.cons_append, List.nil_append, List.length_cons, List.length_nil, List.replicate_succ, List.replicate_zero, Nat.reduceAdd, Nat.reduceSub]
        repeat' (first
          | dsimp only [putD, DV.cells, DH.new_next, DH.set_next, List.length_cons, List.length_nil, Nat.reduceAdd, List.set_cons_zero, List.set_cons_succ, getD_zero, getD_succ, fieldAt_zero, fieldAt_succ, thenD, blockD, retR]
          | apply dwp_seq
          | apply dwp_region
          | apply ops_nil
          | (apply ops_plain; (· exact rfl))
          | (apply ops_on; (· exact rfl); (· exact rfl); (· (first | with_reducible assumption | with_reducible rfl | decide)))
          | (apply ops_off1; (· exact rfl); (· exact rfl); (· (first | with_reducible assumption | with_reducible rfl | decide)))
          | (apply ops_off0; (· exact rfl); (· exact rfl); (· (first | with_reducible assumption | with_reducible rfl | decide)))
          | (apply ops_offn; (· exact rfl); (· exact rfl))
          | (apply op_pick_t; (· exact rfl); (· exact rfl); (· (first | with_reducible assumption | with_reducible rfl | decide)); (· exact rfl))
          | (apply op_pick_f; (· exact rfl); (· exact rfl); (· (first | with_reducible assumption | with_reducible rfl | decide)); (· exact rfl))
          | (apply op_at; (· exact opD_eql rfl rfl rfl heq))
          | (apply bx_load0; (· exact rfl); (· exact rfl); (· assumption); (· (repeat (first | with_reducible exact At.here | with_reducible apply At.there | with_reducible apply at_app))); (· (first | exact part57 _ _ _ _ | exact rfl)))
          | (apply bx_box; (· exact rfl); (· exact rfl); (· (first | (dsimp only [putD, DV.cells, DH.new_next, DH.set_next, List.length_cons, List.length_nil, Nat.reduceAdd, List.set_cons_zero, List.set_cons_succ, getD_zero, getD_succ, fieldAt_zero, fieldAt_succ, thenD, blockD, retR, Sv.cells]; done) | (dsimp only [putD, DV.cells, DH.new_next, DH.set_next, List.length_cons, List.length_nil, Nat.reduceAdd, List.set_cons_zero, List.set_cons_succ, getD_zero, getD_succ, fieldAt_zero, fieldAt_succ, thenD, blockD, retR, Sv.cells]; exact rfl) | exact rfl)); (· exact rfl); (· exact rfl); (· assumption); intro b1 H1 hB)
          | (apply op_at; (· exact rfl))
          | (apply dwp_cond_t; (· exact rfl); (· (first | with_reducible assumption | with_reducible rfl | decide)))
          | (apply dwp_cond_f; (· exact rfl); (· (first | with_reducible assumption | with_reducible rfl | decide)))
          | apply dwp_block
          | apply dwp_ret
          | (refine ⟨_, rfl, ?_⟩)
          | fail)
        exact hK _ (hB.sub (by (repeat (first | exact List.Sublist.refl _ | exact List.nil_sublist _ | apply List.Sublist.cons_cons | apply List.Sublist.cons | apply List.Sublist.append_left | refine List.Sublist.trans ?_ (List.sublist_append_right _ _)))))
    | false =>
      have hk3' : k ≠ 3 := by simpa using hk3
      cases hk2 : (k != 2) with
      | true =>
        have hk2' : k ≠ 2 := by simpa using hk2
        rw [if_neg (fun h => by exact hk1' h.1), if_neg (fun h => by exact hk3' h.1), if_pos (.inl hk2')] at hK
        refine enter rfl Tryd.func27 rfl Tryd.ntmps27 rfl ?_
        dsimp only [List.cons_append, List.nil_append, List.length_cons, List.length_nil, List.replicate_succ, List.replicate_zero, Nat.reduceAdd, Nat.reduceSub]
        repeat' (first
          | dsimp only [putD, DV.cells, DH.new_next, DH.set_next, List.length_cons, List.length_nil, Nat.reduceAdd, List.set_cons_zero, List.set_cons_succ, getD_zero, getD_succ, fieldAt_zero, fieldAt_succ, thenD, blockD, retR]
          | apply dwp_seq
          | apply dwp_region
          | apply ops_nil
          | (apply ops_plain; (· exact rfl))
          | (apply ops_off1; (· exact rfl); (· exact rfl); (· (first | with_reducible assumption | with_reducible rfl | decide)))
          | (apply ops_off0; (· exact rfl); (· exact rfl); (· (first | with_reducible assumption | with_reducible rfl | decide)))
          | (apply ops_offn; (· exact rfl); (· exact rfl))
          | (apply op_pick_t; (· exact rfl); (· exact rfl); (· (first | with_reducible assumption | with_reducible rfl | decide)); (· exact rfl))
          | (apply op_pick_f; (· exact rfl); (· exact rfl); (· (first | with_reducible assumption | with_reducible rfl | decide)); (· exact rfl))
          | (apply op_at; (· exact opD_eql rfl rfl rfl heq))
          | (apply bx_load0; (· exact rfl); (· exact rfl); (· assumption); (· (repeat (first | with_reducible exact At.here | with_reducible apply At.there | with_reducible apply at_app))); (· (first | exact part57 _ _ _ _ | exact rfl)))
          | (apply bx_box; (· exact rfl); (· exact rfl); (· (first | (dsimp only [putD, DV.cells, DH.new_next, DH.set_next, List.length_cons, List.length_nil, Nat.reduceAdd, List.set_cons_zero, List.set_cons_succ, getD_zero, getD_succ, fieldAt_zero, fieldAt_succ, thenD, blockD, retR, Sv.cells]; done) | (dsimp only [putD, DV.cells, DH.new_next, DH.set_next, List.length_cons, List.length_nil, Nat.reduceAdd, List.set_cons_zero, List.set_cons_succ, getD_zero, getD_succ, fieldAt_zero, fieldAt_succ, thenD, blockD, retR, Sv.cells]; exact rfl) | exact rfl)); (· exact rfl); (· exact rfl); (· assumption); intro b1 H1 hB)
          | (apply op_at; (· exact rfl))
          | (apply dwp_cond_t; (· exact rfl); (· (first | with_reducible assumption | with_reducible rfl | decide)))
          | (apply dwp_cond_f; (· exact rfl); (· (first | with_reducible assumption | with_reducible rfl | decide)))
          | apply dwp_block
          | apply dwp_ret
          | (refine ⟨_, rfl, ?_⟩)
          | fail)
        exact hK _ (hB.sub (by (repeat (first | exact List.Sublist.refl _ | exact List.nil_sublist _ | apply List.Sublist.cons_cons | apply List.Sublist.cons | apply List.Sublist.append_left | refine List.Sublist.trans ?_ (List.sublist_append_right _ _)))))
      | false =>
        obtain rfl : k = 2 := by simpa using hk2
        cases hn1 : decide (n ≤ -1000000000000000000) with
        | true =>
          rw [if_neg (fun h => by exact hk1' h.1), if_neg (fun h => by exact hk3' h.1), if_pos (.inr (.inl (by simpa using hn1)))] at hK
          refine enter rfl Tryd.func27 rfl Tryd.ntmps27 rfl ?_
          dsimp only [List.cons_append, List.nil_append, List.length_cons, List.length_nil, List.replicate_succ, List.replicate_zero, Nat.reduceAdd, Nat.reduceSub]
          repeat' (first
            | dsimp only [putD, DV.cells, DH.new_next, DH.set_next, List.length_cons, List.length_nil, Nat.reduceAdd, List.set_cons_zero, List.set_cons_succ, getD_zero, getD_succ, fieldAt_zero, fieldAt_succ, thenD, blockD, retR]
            | apply dwp_seq
            | apply dwp_region
            | apply ops_nil
            | (apply ops_plain; (· exact rfl))
            | (apply ops_on; (· exact rfl); (· exact rfl); (· (first | with_reducible assumption | with_reducible rfl | decide)))
            | (apply ops_off1; (· exact rfl); (· exact rfl); (· (first | with_reducible assumption | with_reducible rfl | decide)))
            | (apply ops_off0; (· exact rfl); (· exact rfl); (· (first | with_reducible assumption | with_reducible rfl | decide)))
            | (apply ops_offn; (· exact rfl); (· exact rfl))
            | (apply op_pick_t; (· exact rfl); (· exact rfl); (· (first | with_reducible assumption | with_reducible rfl | decide)); (· exact rfl))
            | (apply op_pick_f; (· exact rfl); (· exact rfl); (· (first | with_reducible assumption | with_reducible rfl | decide)); (· exact rfl))
            | (apply op_at; (· exact opD_eql rfl rfl rfl heq))
            | (apply bx_load0; (· exact rfl); (· exact rfl); (· assumption); (· (repeat (first | with_reducible exact At.here | with_reducible apply At.there | with_reducible apply at_app))); (· (first | exact part57 _ _ _ _ | exact rfl)))
            | (apply bx_box; (· exact rfl); (· exact rfl); (· (first | (dsimp only [putD, DV.cells, DH.new_next, DH.set_next, List.length_cons, List.length_nil, Nat.reduceAdd, List.set_cons_zero, List.set_cons_succ, getD_zero, getD_succ, fieldAt_zero, fieldAt_succ, thenD, blockD, retR, Sv.cells]; done) | (dsimp only [putD, DV.cells, DH.new_next, DH.set_next, List.length_cons, List.length_nil, Nat.reduceAdd, List.set_cons_zero, List.set_cons_succ, getD_zero, getD_succ, fieldAt_zero, fieldAt_succ, thenD, blockD, retR, Sv.cells]; exact rfl) | exact rfl)); (· exact rfl); (· exact rfl); (· assumption); intro b1 H1 hB)
            | (apply op_at; (· exact rfl))
            | (apply dwp_cond_t; (· exact rfl); (· (first | with_reducible assumption | with_reducible rfl | decide)))
            | (apply dwp_cond_f; (· exact rfl); (· (first | with_reducible assumption | with_reducible rfl | decide)))
            | apply dwp_block
            | apply dwp_ret
            | (refine ⟨_, rfl, ?_⟩)
            | fail)
          exact hK _ (hB.sub (by (repeat (first | exact List.Sublist.refl _ | exact List.nil_sublist _ | apply List.Sublist.cons_cons | apply List.Sublist.cons | apply List.Sublist.append_left | refine List.Sublist.trans ?_ (List.sublist_append_right _ _)))))
        | false =>
          cases hn2 : decide (n ≥ 1000000000000000000) with
          | true =>
            rw [if_neg (fun h => by exact hk1' h.1), if_neg (fun h => by exact hk3' h.1), if_pos (.inr (.inr (by simpa using hn2)))] at hK
            refine enter rfl Tryd.func27 rfl Tryd.ntmps27 rfl ?_
            dsimp only [List.cons_append, List.nil_append, List.length_cons, List.length_nil, List.replicate_succ, List.replicate_zero, Nat.reduceAdd, Nat.reduceSub]
            repeat' (first
              | dsimp only [putD, DV.cells, DH.new_next, DH.set_next, List.length_cons, List.length_nil, Nat.reduceAdd, List.set_cons_zero, List.set_cons_succ, getD_zero, getD_succ, fieldAt_zero, fieldAt_succ, thenD, blockD, retR]
              | apply dwp_seq
              | apply dwp_region
              | apply ops_nil
              | (apply ops_plain; (· exact rfl))
              | (apply ops_on; (· exact rfl); (· exact rfl); (· (first | with_reducible assumption | with_reducible rfl | decide)))
              | (apply ops_off1; (· exact rfl); (· exact rfl); (· (first | with_reducible assumption | with_reducible rfl | decide)))
              | (apply ops_offn; (· exact rfl); (· exact rfl))
              | (apply op_pick_f; (· exact rfl); (· exact rfl); (· (first | with_reducible assumption | with_reducible rfl | decide)); (· exact rfl))
              | (apply op_at; (· exact opD_eql rfl rfl rfl heq))
              | (apply bx_load0; (· exact rfl); (· exact rfl); (· assumption); (· (repeat (first | with_reducible exact At.here | with_reducible apply At.there | with_reducible apply at_app))); (· (first | exact part57 _ _ _ _ | exact rfl)))
              | (apply bx_box; (· exact rfl); (· exact rfl); (· (first | (dsimp only [putD, DV.cells, DH.new_next, DH.set_next, List.length_cons, List.length_nil, Nat.reduceAdd, List.set_cons_zero, List.set_cons_succ, getD_zero, getD_succ, fieldAt_zero, fieldAt_succ, thenD, blockD, retR, Sv.cells]; done) | (dsimp only [putD, DV.cells, DH.new_next, DH.set_next, List.length_cons, List.length_nil, Nat.reduceAdd, List.set_cons_zero, List.set_cons_succ, getD_zero, getD_succ, fieldAt_zero, fieldAt_succ, thenD, blockD, retR, Sv.cells]; exact rfl) | exact rfl)); (· exact rfl); (· exact rfl); (· assumption); intro b1 H1 hB)
              | (apply op_at; (· exact rfl))
              | (apply dwp_cond_t; (· exact rfl); (· (first | with_reducible assumption | with_reducible rfl | decide)))
              | (apply dwp_cond_f; (· exact rfl); (· (first | with_reducible assumption | with_reducible rfl | decide)))
              | apply dwp_block
              | apply dwp_ret
              | (refine ⟨_, rfl, ?_⟩)
              | fail)
            exact hK _ (hB.sub (by (repeat (first | exact List.Sublist.refl _ | exact List.nil_sublist _ | apply List.Sublist.cons_cons | apply List.Sublist.cons | apply List.Sublist.append_left | refine List.Sublist.trans ?_ (List.sublist_append_right _ _)))))
          | false =>
            have hn : -1000000000000000000 < n ∧ n < 1000000000000000000 := by simp at hn1 hn2; omega
            rw [if_neg (fun h => hk1' h.1), if_neg (fun h => hk3' h.1), if_neg (by omega)] at hK
            cases tm with
            | true =>
              rw [if_pos rfl] at hK
              refine enter rfl Tryd.func27 rfl Tryd.ntmps27 rfl ?_
              dsimp only [List.cons_append, List.nil_append, List.length_cons, List.length_nil, List.replicate_succ, List.replicate_zero, Nat.reduceAdd, Nat.reduceSub]
              repeat' (first
                | dsimp only [putD, DV.cells, DH.new_next, DH.set_next, List.length_cons, List.length_nil, Nat.reduceAdd, List.set_cons_zero, List.set_cons_succ, getD_zero, getD_succ, fieldAt_zero, fieldAt_succ, thenD, blockD, retR]
                | apply dwp_seq
                | apply dwp_region
                | apply ops_nil
                | (apply ops_plain; (· exact rfl))
                | (apply ops_on; (· exact rfl); (· exact rfl); (· (first | with_reducible assumption | with_reducible rfl | decide)))
                | (apply ops_off1; (· exact rfl); (· exact rfl); (· (first | with_reducible assumption | with_reducible rfl | decide)))
                | (apply ops_offn; (· exact rfl); (· exact rfl))
                | (apply op_call; (· exact rfl); (· exact rfl); (· exact rfl); (apply ptext39 (t := n); (· exact hn); (· assumption); intro H1 hB))
                | (apply op_pick_f; (· exact rfl); (· exact rfl); (· (first | with_reducible assumption | with_reducible rfl | decide)); (· exact rfl))
                | (apply op_at; (· exact opD_eql rfl rfl rfl heq))
                | (apply bx_load0; (· exact rfl); (· exact rfl); (· assumption); (· (repeat (first | with_reducible exact At.here | with_reducible apply At.there | with_reducible apply at_app))); (· (first | exact part57 _ _ _ _ | exact rfl)))
                | (apply bx_box; (· exact rfl); (· exact rfl); (· (first | (dsimp only [putD, DV.cells, DH.new_next, DH.set_next, List.length_cons, List.length_nil, Nat.reduceAdd, List.set_cons_zero, List.set_cons_succ, getD_zero, getD_succ, fieldAt_zero, fieldAt_succ, thenD, blockD, retR, Sv.cells]; done) | (dsimp only [putD, DV.cells, DH.new_next, DH.set_next, List.length_cons, List.length_nil, Nat.reduceAdd, List.set_cons_zero, List.set_cons_succ, getD_zero, getD_succ, fieldAt_zero, fieldAt_succ, thenD, blockD, retR, Sv.cells]; exact rfl) | exact rfl)); (· exact rfl); (· exact rfl); (· assumption); intro b1 H1 hB)
                | (apply op_at; (· exact rfl))
                | (apply dwp_cond_t; (· exact rfl); (· (first | with_reducible assumption | with_reducible rfl | decide)))
                | (apply dwp_cond_f; (· exact rfl); (· (first | with_reducible assumption | with_reducible rfl | decide)))
                | apply dwp_block
                | apply dwp_ret
                | (refine ⟨_, rfl, ?_⟩)
                | fail)
              exact hK _ (hB.sub (by (repeat (first | exact List.Sublist.refl _ | exact List.nil_sublist _ | apply List.Sublist.cons_cons | apply List.Sublist.cons | apply List.Sublist.append_left | refine List.Sublist.trans ?_ (List.sublist_append_right _ _)))))
            | false =>
              rw [if_neg (by simp)] at hK
              refine enter rfl Tryd.func27 rfl Tryd.ntmps27 rfl ?_
              dsimp only [List.cons_append, List.nil_append, List.length_cons, List.length_nil, List.replicate_succ, List.replicate_zero, Nat.reduceAdd, Nat.reduceSub]
              repeat' (first
                | dsimp only [putD, DV.cells, DH.new_next, DH.set_next, List.length_cons, List.length_nil, Nat.reduceAdd, List.set_cons_zero, List.set_cons_succ, getD_zero, getD_succ, fieldAt_zero, fieldAt_succ, thenD, blockD, retR]
                | apply dwp_seq
                | apply dwp_region
                | apply ops_nil
                | (apply ops_plain; (· exact rfl))
                | (apply ops_on; (· exact rfl); (· exact rfl); (· (first | with_reducible assumption | with_reducible rfl | decide)))
                | (apply ops_off1; (· exact rfl); (· exact rfl); (· (first | with_reducible assumption | with_reducible rfl | decide)))
                | (apply ops_offn; (· exact rfl); (· exact rfl))
                | (apply op_call; (· exact rfl); (· exact rfl); (· exact rfl); (apply dec59 (n := n); (· exact hn); (· assumption); intro H1 hB))
                | (apply op_pick_f; (· exact rfl); (· exact rfl); (· (first | with_reducible assumption | with_reducible rfl | decide)); (· exact rfl))
                | (apply op_at; (· exact opD_eql rfl rfl rfl heq))
                | (apply bx_load0; (· exact rfl); (· exact rfl); (· assumption); (· (repeat (first | with_reducible exact At.here | with_reducible apply At.there | with_reducible apply at_app))); (· (first | exact part57 _ _ _ _ | exact rfl)))
                | (apply bx_box; (· exact rfl); (· exact rfl); (· (first | (dsimp only [putD, DV.cells, DH.new_next, DH.set_next, List.length_cons, List.length_nil, Nat.reduceAdd, List.set_cons_zero, List.set_cons_succ, getD_zero, getD_succ, fieldAt_zero, fieldAt_succ, thenD, blockD, retR, Sv.cells]; done) | (dsimp only [putD, DV.cells, DH.new_next, DH.set_next, List.length_cons, List.length_nil, Nat.reduceAdd, List.set_cons_zero, List.set_cons_succ, getD_zero, getD_succ, fieldAt_zero, fieldAt_succ, thenD, blockD, retR, Sv.cells]; exact rfl) | exact rfl)); (· exact rfl); (· exact rfl); (· assumption); intro b1 H1 hB)
                | (apply op_at; (· exact rfl))
                | (apply dwp_cond_f; (· exact rfl); (· (first | with_reducible assumption | with_reducible rfl | decide)))
                | apply dwp_block
                | apply dwp_skip
                | apply dwp_ret
                | (refine ⟨_, rfl, ?_⟩)
                | fail)
              exact hK _ (hB.sub (by (repeat (first | exact List.Sublist.refl _ | exact List.nil_sublist _ | apply List.Sublist.cons_cons | apply List.Sublist.cons | apply List.Sublist.append_left | refine List.Sublist.trans ?_ (List.sublist_append_right _ _)))))
theorem textF_err (t : Tok) : (textF t).2 = 0 ∨ (textF t).2 = 1 := by
  unfold textF
  (repeat' split) <;> simp
theorem textF_len {t : Tok} (h : (textF t).2 = 0) : (textF t).1.length ≤ 100 := by
  unfold textF at h ⊢
  split
  · rename_i h1; have := (wordF_facts h1.2.2).2.2.2; simp only; omega
  · rename_i h1
    rw [if_neg h1] at h
    split
    · rename_i h2; rcases h2.2.2 with e | e | e <;> simp [e]
    · rename_i h2
      rw [if_neg h2] at h
      split
      · rename_i h3; rw [if_pos h3] at h; cases h
      · rename_i h3
        split
        · simp only
          unfold ptextF sgnF
          have h4 : t.n.natAbs / (pickU t.n.natAbs).1 ≤ t.n.natAbs := Nat.div_le_self _ _
          have h5 := decN_len 17 (t.n.natAbs / (pickU t.n.natAbs).1) (by omega)
          obtain ⟨ps, hu, _⟩ := pickU_facts t.n.natAbs
          have h6 := (unitF_head hu).2.2.2
          rw [List.length_append, List.length_append]
          split
          · simp; omega
          · simp; omega
        · simp only
          unfold decF
          have h5 := decN_len 17 t.n.natAbs (by omega)
          split
          · simp; omega
          · omega
theorem joinF_len : ∀ (l : List (List UInt8)), (∀ x ∈ l, x.length ≤ 100) → (joinF l [32]).length ≤ 101 * l.length := by
  intro l
  induction l with
  | nil => intro _; exact Nat.zero_le _
  | cons x l ih =>
    intro h
    have hx := h x List.mem_cons_self
    have hl := ih (fun y hy => h y (List.mem_cons_of_mem _ hy))
    cases l with
    | nil => rw [joinF_one, List.length_cons, List.length_nil]; omega
    | cons y r =>
      rw [joinF_cons, List.length_append, List.length_cons (a := (32 : UInt8)), List.length_cons (a := x)]
      omega
/-- What several tokens' text is. -/
def joinR (l : List Tok) : List UInt8 × Int := if (l.all fun t => decide ((textF t).2 = 0)) = true then (joinF (l.map fun t => (textF t).1) [32], 0) else ([], 1)
theorem et96 : ElemT Tryd.prog 96 9 1 16 (.str []) := ⟨rfl, rfl, rfl, by kernel_rfl, by decide, by decide, rfl, rfl⟩
theorem bx_make {P : Program} {X : Ext} {o : Oper} {env : List DV} {st e : TypeId} {z by_ : Nat} {z0 : DV} {x y : Operand} {n : Nat} {j k : IntKind} (E : ElemT P st e z by_ z0) (ho : o.op = .makeSlice st x y) (hx : evalO env x = some (.int j (n : Int))) (hy : evalO env y = some (.int k (n : Int))) (hn : n ≤ mostD) (hB : Bx A H bs fs)
    (hk : ∀ b H', Bx A H' ((b, .rows false z (List.replicate n z0.cells)) :: bs) fs → K (.sl (some (b, 0, z)) n n true) H') : OpWp P X o env H K :=
  op_make E ho hx hy (Nat.le_refl _) hn (hk _ _ (hB.box _))
theorem few23t {s : List UInt8} {l : List Tok} {p : Option (Nat × Nat × Nat)} {c : Nat} {ex : Bool} (hll : l.length ≤ 9223372036854775807) (hsl : ∀ H', Bx A H' bs fs → Sl H' 4 (l.map Tok.row) p) (hB : Bx A H bs fs)
    (hK : ∀ H', Bx A H' bs fs → K (.bool ((l.all fun t => decide (t.s.length ≤ 200)) && (few s.length && decide (l.length ≤ 300)))) H') : CallWp Tryd.prog X3 23 [.str s, .sl p l.length c ex] H K := by
  refine enter rfl Tryd.func23 rfl Tryd.ntmps23 rfl ?_
  dsimp only [List.cons_append, List.nil_append, List.length_cons, List.length_nil, List.replicate_succ, List.replicate_zero, Nat.reduceAdd, Nat.reduceSub]
  repeat' (first
    | dsimp only [putD, DV.cells, DH.new_next, DH.set_next, List.length_cons, List.length_nil, Nat.reduceAdd, List.set_cons_zero, List.set_cons_succ, getD_zero, getD_succ, fieldAt_zero, fieldAt_succ, thenD, blockD, retR]
    | apply dwp_seq
    | apply dwp_region
    | apply ops_nil
    | (apply ops_plain; (· exact rfl))
    | (apply op_at; (· exact rfl))
    | apply dwp_block
    | fail)
  refine dwp_loop (fun st => ∃ (H1 : DH) (k : Nat), ∃ J : Nat → DV, (Bx A H1 bs fs ∧ k ≤ l.length ∧ ∀ i t, i < k → l[i]? = some t → t.s.length ≤ 200) ∧ st = ⟨(.str s :: .sl p l.length c ex :: J 2 :: J 3 :: .bool false :: J 5 :: J 6 :: .sl p l.length c ex :: .int .i64 (l.length : Int) :: .int .i64 (k : Int) :: J 10 :: J 11 :: J 12 :: J 13 :: J 14 :: J 15 :: J 16 :: J 17 :: J 18 :: J 19 :: J 20 :: J 21 :: J 22 :: J 23 :: J 24 :: J 25 :: J 26 :: J 27 :: J 28 :: J 29 :: J 30 :: J 31 :: J 32 :: J 33 :: J 34 :: J 35 :: []), H1⟩) (fun st => l.length - kOf st 9) (⟨_, 0, junk_facts (⟨hB, Nat.zero_le _, fun i t h => absurd h (by omega)⟩) rfl rfl⟩) ?_
  rintro st ⟨H1, k, J, ⟨hB, hk, hbef⟩, rfl⟩
  by_cases hlt : k < l.length
  · obtain ⟨x, hx⟩ : ∃ x, l[k]? = some x := ⟨l[k], List.getElem?_eq_getElem hlt⟩
    obtain ⟨loc, i0, ro, rs, rfl, hloc, ho, hrx⟩ := (hsl _ hB).rd (k := k) (r := x.row) (by rw [List.getElem?_map, hx]; rfl)
    have hr1 : rs[i0 + ((k : Int)).toNat]? = some x.row := by rw [Int.toNat_natCast]; exact hrx
    have hc : decide ((k : Int) < (l.length : Int)) = true := by simp [hlt]
    have hin1 : 0 ≤ (k : Int) ∧ (k : Int) < (l.length : Int) := by omega
    have hw : IntKind.i64.wrap ((k : Int) + 1) = ((k + 1 : Nat) : Int) := by rw [wrapI (by omega)]; rfl
    cases hbig : decide ((x.s.length : Int) > 200) with
    | true =>
      have hf : (l.all fun t => decide (t.s.length ≤ 200)) = false := by
        rw [List.all_eq_false]
        exact ⟨x, List.mem_of_getElem? hx, by simp at hbig ⊢; omega⟩
      rw [hf, Bool.false_and] at hK
      repeat' (first
        | dsimp only [putD, DV.cells, DH.new_next, DH.set_next, List.length_cons, List.length_nil, Nat.reduceAdd, List.set_cons_zero, List.set_cons_succ, getD_zero, getD_succ, fieldAt_zero, fieldAt_succ, thenD, blockD, retR]
        | apply dwp_seq
        | apply dwp_region
        | apply ops_nil
        | (apply ops_plain; (· exact rfl))
        | (apply op_index_at; (· exact rfl); (· exact rfl); (· exact rfl); (· with_reducible exact hin1); (· exact rfl); (· exact rfl))
        | (apply op_load_at; (· exact rfl); (· exact rfl); (· exact ho); (· exact hr1); (· exact partTok x))
        | (apply bx_load0; (· exact rfl); (· exact rfl); (· assumption); (· (repeat (first | with_reducible exact At.here | with_reducible apply At.there | with_reducible apply at_app))); (· (first | exact part57 _ _ _ _ | exact rfl)))
        | (apply bx_store0; (· exact rfl); (· exact rfl); (· exact rfl); (· assumption); (· (first | (dsimp only [putD, DV.cells, DH.new_next, DH.set_next, List.length_cons, List.length_nil, Nat.reduceAdd, List.set_cons_zero, List.set_cons_succ, getD_zero, getD_succ, fieldAt_zero, fieldAt_succ, thenD, blockD, retR, Sv.cells]; done) | (dsimp only [putD, DV.cells, DH.new_next, DH.set_next, List.length_cons, List.length_nil, Nat.reduceAdd, List.set_cons_zero, List.set_cons_succ, getD_zero, getD_succ, fieldAt_zero, fieldAt_succ, thenD, blockD, retR, Sv.cells]; exact rfl) | exact rfl)); (· (repeat (first | with_reducible exact Upd.here | with_reducible apply Upd.there | with_reducible apply upd_app))); (· exact rfl); (· exact rfl); (· exact rfl); (· exact rfl); intro H1 hB)
        | (apply bx_alloc; (· exact rfl); (· exact zero57); (· (first | (dsimp only [putD, DV.cells, DH.new_next, DH.set_next, List.length_cons, List.length_nil, Nat.reduceAdd, List.set_cons_zero, List.set_cons_succ, getD_zero, getD_succ, fieldAt_zero, fieldAt_succ, thenD, blockD, retR, Sv.cells]; done) | (dsimp only [putD, DV.cells, DH.new_next, DH.set_next, List.length_cons, List.length_nil, Nat.reduceAdd, List.set_cons_zero, List.set_cons_succ, getD_zero, getD_succ, fieldAt_zero, fieldAt_succ, thenD, blockD, retR, Sv.cells]; exact rfl) | exact rfl)); (· exact rfl); (· exact rfl); (· assumption); intro b1 H1 hB)
        | (apply op_at; (· exact rfl))
        | (apply dwp_cond_t; (· exact rfl); (· (first | with_reducible assumption | with_reducible rfl | decide)))
        | apply dwp_block
        | apply dwp_skip
        | apply dwp_ret
        | (refine ⟨_, rfl, ?_⟩)
        | fail)
      exact hK _ (hB.sub (by (repeat (first | exact List.Sublist.refl _ | exact List.nil_sublist _ | apply List.Sublist.cons_cons | apply List.Sublist.cons | apply List.Sublist.append_left | refine List.Sublist.trans ?_ (List.sublist_append_right _ _)))))
    | false =>
      repeat' (first
        | dsimp only [putD, DV.cells, DH.new_next, DH.set_next, List.length_cons, List.length_nil, Nat.reduceAdd, List.set_cons_zero, List.set_cons_succ, getD_zero, getD_succ, fieldAt_zero, fieldAt_succ, thenD, blockD, retR]
        | apply dwp_seq
        | apply dwp_region
        | apply ops_nil
        | (apply ops_plain; (· exact rfl))
        | (apply op_index_at; (· exact rfl); (· exact rfl); (· exact rfl); (· with_reducible exact hin1); (· exact rfl); (· exact rfl))
        | (apply op_load_at; (· exact rfl); (· exact rfl); (· exact ho); (· exact hr1); (· exact partTok x))
        | (apply op_told; (· exact rfl); (· exact congrArg (DV.int _) hw))
        | (apply bx_load0; (· exact rfl); (· exact rfl); (· assumption); (· (repeat (first | with_reducible exact At.here | with_reducible apply At.there | with_reducible apply at_app))); (· (first | exact part57 _ _ _ _ | exact rfl)))
        | (apply bx_store0; (· exact rfl); (· exact rfl); (· exact rfl); (· assumption); (· (first | (dsimp only [putD, DV.cells, DH.new_next, DH.set_next, List.length_cons, List.length_nil, Nat.reduceAdd, List.set_cons_zero, List.set_cons_succ, getD_zero, getD_succ, fieldAt_zero, fieldAt_succ, thenD, blockD, retR, Sv.cells]; done) | (dsimp only [putD, DV.cells, DH.new_next, DH.set_next, List.length_cons, List.length_nil, Nat.reduceAdd, List.set_cons_zero, List.set_cons_succ, getD_zero, getD_succ, fieldAt_zero, fieldAt_succ, thenD, blockD, retR, Sv.cells]; exact rfl) | exact rfl)); (· (repeat (first | with_reducible exact Upd.here | with_reducible apply Upd.there | with_reducible apply upd_app))); (· exact rfl); (· exact rfl); (· exact rfl); (· exact rfl); intro H1 hB)
        | (apply bx_alloc; (· exact rfl); (· exact zero57); (· (first | (dsimp only [putD, DV.cells, DH.new_next, DH.set_next, List.length_cons, List.length_nil, Nat.reduceAdd, List.set_cons_zero, List.set_cons_succ, getD_zero, getD_succ, fieldAt_zero, fieldAt_succ, thenD, blockD, retR, Sv.cells]; done) | (dsimp only [putD, DV.cells, DH.new_next, DH.set_next, List.length_cons, List.length_nil, Nat.reduceAdd, List.set_cons_zero, List.set_cons_succ, getD_zero, getD_succ, fieldAt_zero, fieldAt_succ, thenD, blockD, retR, Sv.cells]; exact rfl) | exact rfl)); (· exact rfl); (· exact rfl); (· assumption); intro b1 H1 hB)
        | (apply op_at; (· exact rfl))
        | (apply dwp_cond_t; (· exact rfl); (· (first | with_reducible assumption | with_reducible rfl | decide)))
        | (apply dwp_cond_f; (· exact rfl); (· (first | with_reducible assumption | with_reducible rfl | decide)))
        | apply dwp_block
        | apply dwp_skip
        | fail)
      refine ⟨⟨_, k + 1, junk_facts ⟨(hB.sub (by (repeat (first | exact List.Sublist.refl _ | exact List.nil_sublist _ | apply List.Sublist.cons_cons | apply List.Sublist.cons | apply List.Sublist.append_left | refine List.Sublist.trans ?_ (List.sublist_append_right _ _))))), by omega, fun i t h1 h2 => ?_⟩ rfl rfl⟩, ?_⟩
      · by_cases e : i = k
        · subst e; rw [hx] at h2; cases h2; simp at hbig; omega
        · exact hbef i t (by omega) h2
      · show l.length - ((k + 1 : Nat) : Int).toNat < l.length - (k : Int).toNat
        omega
  · have hc : decide ((k : Int) < (l.length : Int)) = false := by simp; omega
    have hall : (l.all fun t => decide (t.s.length ≤ 200)) = true := by
      rw [List.all_eq_true]
      intro t ht
      obtain ⟨i, hi⟩ := List.getElem?_of_mem ht
      have := (List.getElem?_eq_some_iff.mp hi).1
      simpa using hbef i t (by omega) hi
    rw [hall, Bool.true_and] at hK
    unfold few at hK
    have h300 : decide ((l.length : Int) ≤ 300) = decide (l.length ≤ 300) := decide_eq_decide.mpr (by omega)
    cases h1 : decide ((s.length : Int) ≤ 3000) with
    | true =>
      have e1 : decide (s.length ≤ 3000) = true := by simp at h1 ⊢; omega
      rw [e1, Bool.true_or, Bool.true_and] at hK
      repeat' (first
        | dsimp only [putD, DV.cells, DH.new_next, DH.set_next, List.length_cons, List.length_nil, Nat.reduceAdd, List.set_cons_zero, List.set_cons_succ, getD_zero, getD_succ, fieldAt_zero, fieldAt_succ, thenD, blockD, retR]
        | apply dwp_seq
        | apply dwp_region
        | apply ops_nil
        | (apply ops_plain; (· exact rfl))
        | (apply ops_on; (· exact rfl); (· exact rfl); (· (first | with_reducible assumption | with_reducible rfl | decide)))
        | (apply ops_off0; (· exact rfl); (· exact rfl); (· (first | with_reducible assumption | with_reducible rfl | decide)))
        | (apply ops_offn; (· exact rfl); (· exact rfl))
        | (apply op_pick_t; (· exact rfl); (· exact rfl); (· (first | with_reducible assumption | with_reducible rfl | decide)); (· exact rfl))
        | (apply op_at; (· exact rfl))
        | (apply dwp_cond_f; (· exact rfl); (· (first | with_reducible assumption | with_reducible rfl | decide)))
        | apply dwp_ret
        | apply dwp_exit
        | (refine ⟨_, rfl, ?_⟩)
        | fail)
      rw [h300]; exact hK _ hB
    | false =>
      have e1 : decide (s.length ≤ 3000) = false := by simp at h1 ⊢; omega
      rw [e1, Bool.false_or] at hK
      cases h2 : decide ((s.length : Int) > 65536) with
      | true =>
        have e2 : decide (65536 < s.length) = true := by simp at h2 ⊢; omega
        rw [e2, Bool.true_and] at hK
        cases h3 : decide ((s.length : Int) < 131072) with
        | true =>
          have e3 : decide (s.length < 131072) = true := by simp at h3 ⊢; omega
          rw [e3, Bool.true_and] at hK
          repeat' (first
            | dsimp only [putD, DV.cells, DH.new_next, DH.set_next, List.length_cons, List.length_nil, Nat.reduceAdd, List.set_cons_zero, List.set_cons_succ, getD_zero, getD_succ, fieldAt_zero, fieldAt_succ, thenD, blockD, retR]
            | apply dwp_seq
            | apply dwp_region
            | apply ops_nil
            | (apply ops_plain; (· exact rfl))
            | (apply ops_on; (· exact rfl); (· exact rfl); (· (first | with_reducible assumption | with_reducible rfl | decide)))
            | (apply op_pick_t; (· exact rfl); (· exact rfl); (· (first | with_reducible assumption | with_reducible rfl | decide)); (· exact rfl))
            | (apply op_pick_f; (· exact rfl); (· exact rfl); (· (first | with_reducible assumption | with_reducible rfl | decide)); (· exact rfl))
            | (apply op_at; (· exact rfl))
            | (apply dwp_cond_f; (· exact rfl); (· (first | with_reducible assumption | with_reducible rfl | decide)))
            | apply dwp_ret
            | apply dwp_exit
            | (refine ⟨_, rfl, ?_⟩)
            | fail)
          rw [h300]; exact hK _ hB
        | false =>
          have e3 : decide (s.length < 131072) = false := by simp at h3 ⊢; omega
          rw [e3, Bool.false_and] at hK
          repeat' (first
            | dsimp only [putD, DV.cells, DH.new_next, DH.set_next, List.length_cons, List.length_nil, Nat.reduceAdd, List.set_cons_zero, List.set_cons_succ, getD_zero, getD_succ, fieldAt_zero, fieldAt_succ, thenD, blockD, retR]
            | apply dwp_seq
            | apply dwp_region
            | apply ops_nil
            | (apply ops_plain; (· exact rfl))
            | (apply ops_on; (· exact rfl); (· exact rfl); (· (first | with_reducible assumption | with_reducible rfl | decide)))
            | (apply ops_off1; (· exact rfl); (· exact rfl); (· (first | with_reducible assumption | with_reducible rfl | decide)))
            | (apply op_pick_t; (· exact rfl); (· exact rfl); (· (first | with_reducible assumption | with_reducible rfl | decide)); (· exact rfl))
            | (apply op_pick_f; (· exact rfl); (· exact rfl); (· (first | with_reducible assumption | with_reducible rfl | decide)); (· exact rfl))
            | (apply op_at; (· exact rfl))
            | (apply dwp_cond_f; (· exact rfl); (· (first | with_reducible assumption | with_reducible rfl | decide)))
            | apply dwp_ret
            | apply dwp_exit
            | (refine ⟨_, rfl, ?_⟩)
            | fail)
          exact hK _ hB
      | false =>
        have e2 : decide (65536 < s.length) = false := by simp at h2 ⊢; omega
        rw [e2, Bool.false_and, Bool.false_and] at hK
        repeat' (first
          | dsimp only [putD, DV.cells, DH.new_next, DH.set_next, List.length_cons, List.length_nil, Nat.reduceAdd, List.set_cons_zero, List.set_cons_succ, getD_zero, getD_succ, fieldAt_zero, fieldAt_succ, thenD, blockD, retR]
          | apply dwp_seq
          | apply dwp_region
          | apply ops_nil
          | (apply ops_plain; (· exact rfl))
          | (apply ops_on; (· exact rfl); (· exact rfl); (· (first | with_reducible assumption | with_reducible rfl | decide)))
          | (apply ops_off1; (· exact rfl); (· exact rfl); (· (first | with_reducible assumption | with_reducible rfl | decide)))
          | (apply op_pick_f; (· exact rfl); (· exact rfl); (· (first | with_reducible assumption | with_reducible rfl | decide)); (· exact rfl))
          | (apply op_at; (· exact rfl))
          | (apply dwp_cond_f; (· exact rfl); (· (first | with_reducible assumption | with_reducible rfl | decide)))
          | apply dwp_ret
          | apply dwp_exit
          | (refine ⟨_, rfl, ?_⟩)
          | fail)
        exact hK _ hB
theorem bare29 {l : List Tok} {p : Option (Nat × Nat × Nat)} {c : Nat} {ex : Bool} (hll : l.length ≤ 100000) (hsl : ∀ H', Bx A H' bs fs → Sl H' 4 (l.map Tok.row) p) (hB : Bx A H bs fs)
    (hK : ∀ (s : Sv) x H', Own1 4 ((l.map bareT).map Tok.row) s.dv x → Bx A H' (x ++ bs) fs → K s.dv H') : CallWp Tryd.prog X3 29 [.sl p l.length c ex] H K := by
  refine enter rfl Tryd.func29 rfl Tryd.ntmps29 rfl ?_
  dsimp only [List.cons_append, List.nil_append, List.length_cons, List.length_nil, List.replicate_succ, List.replicate_zero, Nat.reduceAdd, Nat.reduceSub]
  repeat' (first
    | dsimp only [putD, DV.cells, DH.new_next, DH.set_next, List.length_cons, List.length_nil, Nat.reduceAdd, List.set_cons_zero, List.set_cons_succ, getD_zero, getD_succ, fieldAt_zero, fieldAt_succ, thenD, blockD, retR]
    | apply dwp_seq
    | apply dwp_region
    | apply ops_nil
    | (apply ops_plain; (· exact rfl))
    | (apply op_at; (· exact rfl))
    | apply dwp_block
    | fail)
  refine dwp_loop (fun st => ∃ (s3 : Sv) (x3 : List (Nat × DObj)) (H1 : DH) (k : Nat), ∃ J : Nat → DV, (Own1 4 (((l.take k).map bareT).map Tok.row) s3.dv x3 ∧ Bx A H1 (x3 ++ bs) fs ∧ k ≤ l.length) ∧ st = ⟨[.sl p l.length c ex, J 1, J 2, s3.dv, J 4, J 5, .sl p l.length c ex, .int .i64 (l.length : Int), .int .i64 (k : Int), J 9, J 10, J 11, J 12, J 13, J 14, J 15, J 16, J 17, J 18, J 19, J 20, J 21], H1⟩) (fun st => l.length - kOf st 8) (⟨⟨none, 0, 0, true⟩, [], _, 0, junk_facts (⟨.nil rfl, hB, Nat.zero_le _⟩) rfl rfl⟩) ?_
  rintro st ⟨s3, x3, H1, k, J, ⟨o3, hB, hk⟩, rfl⟩
  by_cases hlt : k < l.length
  · obtain ⟨x, hx⟩ : ∃ x, l[k]? = some x := ⟨l[k], List.getElem?_eq_getElem hlt⟩
    obtain ⟨loc, i0, ro, rs, rfl, hloc, ho, hrx⟩ := (hsl _ (show Bx A H1 bs fs from (hB.sub (by (repeat (first | exact List.Sublist.refl _ | exact List.nil_sublist _ | apply List.Sublist.cons_cons | apply List.Sublist.cons | apply List.Sublist.append_left | refine List.Sublist.trans ?_ (List.sublist_append_right _ _))))))).rd (k := k) (r := x.row) (by rw [List.getElem?_map, hx]; rfl)
    have hr1 : rs[i0 + ((k : Int)).toNat]? = some x.row := by rw [Int.toNat_natCast]; exact hrx
    have hc : decide ((k : Int) < (l.length : Int)) = true := by simp [hlt]
    have hin1 : 0 ≤ (k : Int) ∧ (k : Int) < (l.length : Int) := by omega
    have hw : IntKind.i64.wrap ((k : Int) + 1) = ((k + 1 : Nat) : Int) := by rw [wrapI (by omega)]; rfl
    have hl3 : (((l.take k).map bareT).map Tok.row).length + 1 ≤ mostD := by rw [List.length_map, List.length_map, List.length_take]; unfold mostD; omega
    have htk : ((l.take (k + 1)).map bareT).map Tok.row = ((l.take k).map bareT).map Tok.row ++ [(bareT x).row] := by rw [List.take_add_one, hx]; simp
    obtain ⟨xk, xs, xn, xt⟩ := x
    cases hk2 : (xk == 2) with
    | true =>
      have hxk : xk = 2 := by simpa using hk2
      have hbx : (bareT ⟨xk, xs, xn, xt⟩).row = [.int .i64 2, .str [], .int .i64 xn, .bool xt] := by unfold bareT; rw [if_pos hxk]
      rw [hbx] at htk
      repeat' (first
        | dsimp only [putD, DV.cells, DH.new_next, DH.set_next, List.length_cons, List.length_nil, Nat.reduceAdd, List.set_cons_zero, List.set_cons_succ, getD_zero, getD_succ, fieldAt_zero, fieldAt_succ, thenD, blockD, retR]
        | apply dwp_seq
        | apply dwp_region
        | apply ops_nil
        | (apply ops_plain; (· exact rfl))
        | (apply op_index_at; (· exact rfl); (· exact rfl); (· exact rfl); (· with_reducible exact hin1); (· exact rfl); (· exact rfl))
        | (apply op_load_at; (· exact rfl); (· exact rfl); (· exact ho); (· exact hr1); (· exact partTok _))
        | (apply op_told; (· exact rfl); (· exact congrArg (DV.int _) hw))
        | (apply bx_build1 et46; (· exact rfl); (· exact rfl); (· exact rfl); (· exact rfl); (· exact rfl); (· decide); (· assumption); intro bn H1 hB)
        | (apply op_append_s; (· exact rfl); (· exact rfl); (· exact rfl); (· exact rfl); (· exact et46); (· exact o3); (· assumption); (· (repeat (first | with_reducible exact Ctx.here | with_reducible apply Ctx.cons | with_reducible apply Ctx.app))); (· exact At.here); (· exact rfl); (· exact rfl); (· assumption); intro t3 y3 H1 q3 hB)
        | (apply bx_load0; (· exact rfl); (· exact rfl); (· assumption); (· (repeat (first | with_reducible exact At.here | with_reducible apply At.there | with_reducible apply at_app))); (· (first | exact part57 _ _ _ _ | exact rfl)))
        | (apply bx_store0; (· exact rfl); (· exact rfl); (· exact rfl); (· assumption); (· (first | (dsimp only [putD, DV.cells, DH.new_next, DH.set_next, List.length_cons, List.length_nil, Nat.reduceAdd, List.set_cons_zero, List.set_cons_succ, getD_zero, getD_succ, fieldAt_zero, fieldAt_succ, thenD, blockD, retR, Sv.cells]; done) | (dsimp only [putD, DV.cells, DH.new_next, DH.set_next, List.length_cons, List.length_nil, Nat.reduceAdd, List.set_cons_zero, List.set_cons_succ, getD_zero, getD_succ, fieldAt_zero, fieldAt_succ, thenD, blockD, retR, Sv.cells]; exact rfl) | exact rfl)); (· (repeat (first | with_reducible exact Upd.here | with_reducible apply Upd.there | with_reducible apply upd_app))); (· exact rfl); (· exact rfl); (· exact rfl); (· exact rfl); intro H1 hB)
        | (apply bx_store1; (· exact rfl); (· exact rfl); (· exact rfl); (· assumption); (· (first | (dsimp only [putD, DV.cells, DH.new_next, DH.set_next, List.length_cons, List.length_nil, Nat.reduceAdd, List.set_cons_zero, List.set_cons_succ, getD_zero, getD_succ, fieldAt_zero, fieldAt_succ, thenD, blockD, retR, Sv.cells]; done) | (dsimp only [putD, DV.cells, DH.new_next, DH.set_next, List.length_cons, List.length_nil, Nat.reduceAdd, List.set_cons_zero, List.set_cons_succ, getD_zero, getD_succ, fieldAt_zero, fieldAt_succ, thenD, blockD, retR, Sv.cells]; exact rfl) | exact rfl)); (· (repeat (first | with_reducible exact At.here | with_reducible apply At.there | with_reducible apply at_app))); (· (first | (dsimp only [splice, List.take_zero, List.take_succ_cons, List.length_cons, List.length_nil, Nat.reduceAdd, Nat.zero_add, List.drop_zero, List.drop_succ_cons, List.drop_nil, List.nil_append, List.cons_append, List.append_nil, List.take_nil]; done) | (dsimp only [splice, List.take_zero, List.take_succ_cons, List.length_cons, List.length_nil, Nat.reduceAdd, Nat.zero_add, List.drop_zero, List.drop_succ_cons, List.drop_nil, List.nil_append, List.cons_append, List.append_nil, List.take_nil]; exact rfl) | exact rfl)); (· (repeat (first | with_reducible exact Upd.here | with_reducible apply Upd.there | with_reducible apply upd_app))); (· exact Nat.le_of_ble_eq_true rfl); (· exact rfl); (· exact rfl); (· exact rfl); intro H1 hB)
        | (apply bx_alloc; (· exact rfl); (· exact zero57); (· (first | (dsimp only [putD, DV.cells, DH.new_next, DH.set_next, List.length_cons, List.length_nil, Nat.reduceAdd, List.set_cons_zero, List.set_cons_succ, getD_zero, getD_succ, fieldAt_zero, fieldAt_succ, thenD, blockD, retR, Sv.cells]; done) | (dsimp only [putD, DV.cells, DH.new_next, DH.set_next, List.length_cons, List.length_nil, Nat.reduceAdd, List.set_cons_zero, List.set_cons_succ, getD_zero, getD_succ, fieldAt_zero, fieldAt_succ, thenD, blockD, retR, Sv.cells]; exact rfl) | exact rfl)); (· exact rfl); (· exact rfl); (· assumption); intro b1 H1 hB)
        | (apply op_at; (· exact rfl))
        | (apply dwp_cond_t; (· exact rfl); (· (first | with_reducible assumption | with_reducible rfl | decide)))
        | apply dwp_block
        | apply dwp_skip
        | fail)
      subst hxk
      refine ⟨⟨t3, y3, _, k + 1, junk_facts ⟨by rw [htk]; exact q3, (hB.sub (by (repeat (first | exact List.Sublist.refl _ | exact List.nil_sublist _ | apply List.Sublist.cons_cons | apply List.Sublist.cons | apply List.Sublist.append_left | refine List.Sublist.trans ?_ (List.sublist_append_right _ _))))), by omega⟩ rfl rfl⟩, ?_⟩
      show l.length - ((k + 1 : Nat) : Int).toNat < l.length - (k : Int).toNat
      omega
    | false =>
      have hxk : ¬ xk = 2 := by simpa using hk2
      have hbx : (bareT ⟨xk, xs, xn, xt⟩).row = [.int .i64 xk, .str xs, .int .i64 xn, .bool xt] := by unfold bareT; rw [if_neg hxk]
      rw [hbx] at htk
      repeat' (first
        | dsimp only [putD, DV.cells, DH.new_next, DH.set_next, List.length_cons, List.length_nil, Nat.reduceAdd, List.set_cons_zero, List.set_cons_succ, getD_zero, getD_succ, fieldAt_zero, fieldAt_succ, thenD, blockD, retR]
        | apply dwp_seq
        | apply dwp_region
        | apply ops_nil
        | (apply ops_plain; (· exact rfl))
        | (apply op_index_at; (· exact rfl); (· exact rfl); (· exact rfl); (· with_reducible exact hin1); (· exact rfl); (· exact rfl))
        | (apply op_load_at; (· exact rfl); (· exact rfl); (· exact ho); (· exact hr1); (· exact partTok _))
        | (apply op_told; (· exact rfl); (· exact congrArg (DV.int _) hw))
        | (apply bx_build1 et46; (· exact rfl); (· exact rfl); (· exact rfl); (· exact rfl); (· exact rfl); (· decide); (· assumption); intro bn H1 hB)
        | (apply op_append_s; (· exact rfl); (· exact rfl); (· exact rfl); (· exact rfl); (· exact et46); (· exact o3); (· assumption); (· (repeat (first | with_reducible exact Ctx.here | with_reducible apply Ctx.cons | with_reducible apply Ctx.app))); (· exact At.here); (· exact rfl); (· exact rfl); (· assumption); intro t3 y3 H1 q3 hB)
        | (apply bx_load0; (· exact rfl); (· exact rfl); (· assumption); (· (repeat (first | with_reducible exact At.here | with_reducible apply At.there | with_reducible apply at_app))); (· (first | exact part57 _ _ _ _ | exact rfl)))
        | (apply bx_store0; (· exact rfl); (· exact rfl); (· exact rfl); (· assumption); (· (first | (dsimp only [putD, DV.cells, DH.new_next, DH.set_next, List.length_cons, List.length_nil, Nat.reduceAdd, List.set_cons_zero, List.set_cons_succ, getD_zero, getD_succ, fieldAt_zero, fieldAt_succ, thenD, blockD, retR, Sv.cells]; done) | (dsimp only [putD, DV.cells, DH.new_next, DH.set_next, List.length_cons, List.length_nil, Nat.reduceAdd, List.set_cons_zero, List.set_cons_succ, getD_zero, getD_succ, fieldAt_zero, fieldAt_succ, thenD, blockD, retR, Sv.cells]; exact rfl) | exact rfl)); (· (repeat (first | with_reducible exact Upd.here | with_reducible apply Upd.there | with_reducible apply upd_app))); (· exact rfl); (· exact rfl); (· exact rfl); (· exact rfl); intro H1 hB)
        | (apply bx_alloc; (· exact rfl); (· exact zero57); (· (first | (dsimp only [putD, DV.cells, DH.new_next, DH.set_next, List.length_cons, List.length_nil, Nat.reduceAdd, List.set_cons_zero, List.set_cons_succ, getD_zero, getD_succ, fieldAt_zero, fieldAt_succ, thenD, blockD, retR, Sv.cells]; done) | (dsimp only [putD, DV.cells, DH.new_next, DH.set_next, List.length_cons, List.length_nil, Nat.reduceAdd, List.set_cons_zero, List.set_cons_succ, getD_zero, getD_succ, fieldAt_zero, fieldAt_succ, thenD, blockD, retR, Sv.cells]; exact rfl) | exact rfl)); (· exact rfl); (· exact rfl); (· assumption); intro b1 H1 hB)
        | (apply op_at; (· exact rfl))
        | (apply dwp_cond_t; (· exact rfl); (· (first | with_reducible assumption | with_reducible rfl | decide)))
        | (apply dwp_cond_f; (· exact rfl); (· (first | with_reducible assumption | with_reducible rfl | decide)))
        | apply dwp_block
        | apply dwp_skip
        | fail)
      refine ⟨⟨t3, y3, _, k + 1, junk_facts ⟨by rw [htk]; exact q3, (hB.sub (by (repeat (first | exact List.Sublist.refl _ | exact List.nil_sublist _ | apply List.Sublist.cons_cons | apply List.Sublist.cons | apply List.Sublist.append_left | refine List.Sublist.trans ?_ (List.sublist_append_right _ _))))), by omega⟩ rfl rfl⟩, ?_⟩
      show l.length - ((k + 1 : Nat) : Int).toNat < l.length - (k : Int).toNat
      omega
  · have hc : decide ((k : Int) < (l.length : Int)) = false := by simp; omega
    rw [List.take_of_length_le (by omega)] at o3
    repeat' (first
      | dsimp only [putD, DV.cells, DH.new_next, DH.set_next, List.length_cons, List.length_nil, Nat.reduceAdd, List.set_cons_zero, List.set_cons_succ, getD_zero, getD_succ, fieldAt_zero, fieldAt_succ, thenD, blockD, retR]
      | apply dwp_seq
      | apply dwp_region
      | apply ops_nil
      | (apply ops_plain; (· exact rfl))
      | (apply op_at; (· exact rfl))
      | (apply dwp_cond_f; (· exact rfl); (· (first | with_reducible assumption | with_reducible rfl | decide)))
      | apply dwp_ret
      | apply dwp_exit
      | (refine ⟨_, rfl, ?_⟩)
      | fail)
    exact hK s3 x3 _ o3 hB
theorem joinR_ok {l : List Tok} (h : (joinR l).2 = 0) : (∀ t ∈ l, (textF t).2 = 0) ∧ (joinR l).1 = joinF (l.map fun t => (textF t).1) [32] := by
  unfold joinR at h ⊢
  split at h
  · rename_i h1
    rw [if_pos h1]
    exact ⟨fun t ht => by simpa using List.all_eq_true.mp h1 t ht, rfl⟩
  · cases h
theorem join28 {l : List Tok} {p : Option (Nat × Nat × Nat)} {c : Nat} {ex : Bool} (hll : l.length ≤ 100000) (hss : ∀ t ∈ l, t.s.length ≤ 65536) (hsl : ∀ H', Bx A H' bs fs → Sl H' 4 (l.map Tok.row) p) (hB : Bx A H bs fs)
    (hK : ∀ H', Bx A H' bs fs → K (.tuple [.str (joinR l).1, .int .i64 (joinR l).2]) H') : CallWp Tryd.prog X6 28 [.sl p l.length c ex] H K := by
  have hmost : l.length ≤ mostD := by unfold mostD; omega
  refine enter rfl Tryd.func28 rfl Tryd.ntmps28 rfl ?_
  dsimp only [List.cons_append, List.nil_append, List.length_cons, List.length_nil, List.replicate_succ, List.replicate_zero, Nat.reduceAdd, Nat.reduceSub]
  repeat' (first
    | dsimp only [putD, DV.cells, DH.new_next, DH.set_next, List.length_cons, List.length_nil, Nat.reduceAdd, List.set_cons_zero, List.set_cons_succ, getD_zero, getD_succ, fieldAt_zero, fieldAt_succ, thenD, blockD, retR]
    | apply dwp_seq
    | apply dwp_region
    | apply ops_nil
    | (apply ops_plain; (· exact rfl))
    | (apply bx_make et96; (· exact rfl); (· exact rfl); (· exact rfl); (· exact hmost); (· assumption); intro bm H1 hB)
    | (apply op_at; (· exact rfl))
    | apply dwp_block
    | fail)
  refine dwp_loop (fun st => ∃ (bm : Nat) (H1 : DH) (k : Nat), ∃ J : Nat → DV, (Bx A H1 ((bm, .rows false 1 (((l.take k).map fun t => [DV.str (textF t).1]) ++ List.replicate (l.length - k) [DV.str []])) :: bs) fs ∧ k ≤ l.length ∧ ∀ i t, i < k → l[i]? = some t → (textF t).2 = 0) ∧ st = ⟨(.sl p l.length c ex :: J 1 :: .str [] :: .int .i64 0 :: .sl (some (bm, 0, 1)) l.length l.length true :: J 5 :: J 6 :: J 7 :: J 8 :: J 9 :: J 10 :: J 11 :: .sl p l.length c ex :: .int .i64 (l.length : Int) :: .int .i64 (k : Int) :: J 15 :: J 16 :: J 17 :: J 18 :: J 19 :: J 20 :: J 21 :: J 22 :: J 23 :: J 24 :: J 25 :: J 26 :: J 27 :: J 28 :: J 29 :: J 30 :: J 31 :: J 32 :: J 33 :: []), H1⟩) (fun st => l.length - kOf st 14) (⟨_, _, 0, junk_facts (⟨hB, Nat.zero_le _, fun i t h => absurd h (by omega)⟩) rfl rfl⟩) ?_
  rintro st ⟨bm, H1, k, J, ⟨hB, hk, hbef⟩, rfl⟩
  by_cases hlt : k < l.length
  · obtain ⟨x, hx⟩ : ∃ x, l[k]? = some x := ⟨l[k], List.getElem?_eq_getElem hlt⟩
    obtain ⟨loc, i0, ro, rs, rfl, hloc, ho, hrx⟩ := (hsl _ hB.drop1).rd (k := k) (r := x.row) (by rw [List.getElem?_map, hx]; rfl)
    have hr1 : rs[i0 + ((k : Int)).toNat]? = some x.row := by rw [Int.toNat_natCast]; exact hrx
    have hc : decide ((k : Int) < (l.length : Int)) = true := by simp [hlt]
    have hin1 : 0 ≤ (k : Int) ∧ (k : Int) < (l.length : Int) := by omega
    have hw : IntKind.i64.wrap ((k : Int) + 1) = ((k + 1 : Nat) : Int) := by rw [wrapI (by omega)]; rfl
    have hxs := hss x (List.mem_of_getElem? hx)
    obtain ⟨R, hR⟩ : ∃ R, ((l.take k).map fun t => [DV.str (textF t).1]) ++ List.replicate (l.length - k) [DV.str []] = R := ⟨_, rfl⟩
    rw [hR] at hB
    have hrk : R[0 + ((k : Int)).toNat]? = some [DV.str []] := by
      rw [← hR, Nat.zero_add, Int.toNat_natCast, List.getElem?_append_right (by simp; omega)]
      rw [List.getElem?_replicate]
      rw [if_pos (by simp; omega)]
    have hset : setRow R (0 + ((k : Int)).toNat) 0 (DV.cells (.str (textF x).1)) = some (R.set (0 + ((k : Int)).toNat) [DV.str (textF x).1]) := setRow1 hrk rfl rfl
    have hnew : R.set (0 + ((k : Int)).toNat) [DV.str (textF x).1] = ((l.take (k + 1)).map fun t => [DV.str (textF t).1]) ++ List.replicate (l.length - (k + 1)) [DV.str []] := by
      rw [← hR, Nat.zero_add, Int.toNat_natCast, List.take_add_one, hx, List.map_append, List.set_append_right _ _ (by simp; omega)]
      have e : k - ((l.take k).map fun t => [DV.str (textF t).1]).length = 0 := by simp; omega
      rw [e, show l.length - k = (l.length - (k + 1)) + 1 by omega, List.replicate_succ]
      simp
    have htx : textF x = ((textF x).1, (textF x).2) := rfl
    cases hbad : ((textF x).2 != 0) with
    | true =>
      have hb1 : (textF x).2 = 1 := by
        rcases textF_err x with h | h
        · rw [h] at hbad; cases hbad
        · exact h
      have hj : joinR l = ([], 1) := by
        unfold joinR
        rw [if_neg]
        rw [Bool.not_eq_true, List.all_eq_false]
        exact ⟨x, List.mem_of_getElem? hx, by rw [hb1]; decide⟩
      rw [hj] at hK
      repeat' (first
        | dsimp only [putD, DV.cells, DH.new_next, DH.set_next, List.length_cons, List.length_nil, Nat.reduceAdd, List.set_cons_zero, List.set_cons_succ, getD_zero, getD_succ, fieldAt_zero, fieldAt_succ, thenD, blockD, retR]
        | apply dwp_seq
        | apply dwp_region
        | apply ops_nil
        | (apply ops_plain; (· exact rfl))
        | (apply op_call; (· exact rfl); (· exact rfl); (· exact rfl); (refine (CallWp.up up36 (text27 (t := x) hxs (by assumption) ?_)); intro H1 hB))
        | (apply op_index_at; (· exact rfl); (· exact rfl); (· exact rfl); (· with_reducible exact hin1); (· exact rfl); (· exact rfl))
        | (apply op_load_at; (· exact rfl); (· exact rfl); (· exact ho); (· exact hr1); (· exact partTok x))
        | (apply bx_load0; (· exact rfl); (· exact rfl); (· assumption); (· (repeat (first | with_reducible exact At.here | with_reducible apply At.there | with_reducible apply at_app))); (· (first | exact part57 _ _ _ _ | exact rfl)))
        | (apply bx_store0; (· exact rfl); (· exact rfl); (· exact rfl); (· assumption); (· (first | (dsimp only [putD, DV.cells, DH.new_next, DH.set_next, List.length_cons, List.length_nil, Nat.reduceAdd, List.set_cons_zero, List.set_cons_succ, getD_zero, getD_succ, fieldAt_zero, fieldAt_succ, thenD, blockD, retR, Sv.cells]; done) | (dsimp only [putD, DV.cells, DH.new_next, DH.set_next, List.length_cons, List.length_nil, Nat.reduceAdd, List.set_cons_zero, List.set_cons_succ, getD_zero, getD_succ, fieldAt_zero, fieldAt_succ, thenD, blockD, retR, Sv.cells]; exact rfl) | exact rfl)); (· (repeat (first | with_reducible exact Upd.here | with_reducible apply Upd.there | with_reducible apply upd_app))); (· exact rfl); (· exact rfl); (· exact rfl); (· exact rfl); intro H1 hB)
        | (apply bx_alloc; (· exact rfl); (· exact zero57); (· (first | (dsimp only [putD, DV.cells, DH.new_next, DH.set_next, List.length_cons, List.length_nil, Nat.reduceAdd, List.set_cons_zero, List.set_cons_succ, getD_zero, getD_succ, fieldAt_zero, fieldAt_succ, thenD, blockD, retR, Sv.cells]; done) | (dsimp only [putD, DV.cells, DH.new_next, DH.set_next, List.length_cons, List.length_nil, Nat.reduceAdd, List.set_cons_zero, List.set_cons_succ, getD_zero, getD_succ, fieldAt_zero, fieldAt_succ, thenD, blockD, retR, Sv.cells]; exact rfl) | exact rfl)); (· exact rfl); (· exact rfl); (· assumption); intro b1 H1 hB)
        | (apply op_at; (· exact rfl))
        | (apply dwp_cond_t; (· exact rfl); (· (first | with_reducible assumption | with_reducible rfl | decide)))
        | apply dwp_block
        | apply dwp_skip
        | apply dwp_ret
        | (refine ⟨_, rfl, ?_⟩)
        | fail)
      rw [hb1]; exact hK _ (hB.sub (by (repeat (first | exact List.Sublist.refl _ | exact List.nil_sublist _ | apply List.Sublist.cons_cons | apply List.Sublist.cons | apply List.Sublist.append_left | refine List.Sublist.trans ?_ (List.sublist_append_right _ _)))))
    | false =>
      have hb0 : (textF x).2 = 0 := by simpa using hbad
      repeat' (first
        | dsimp only [putD, DV.cells, DH.new_next, DH.set_next, List.length_cons, List.length_nil, Nat.reduceAdd, List.set_cons_zero, List.set_cons_succ, getD_zero, getD_succ, fieldAt_zero, fieldAt_succ, thenD, blockD, retR]
        | apply dwp_seq
        | apply dwp_region
        | apply ops_nil
        | (apply ops_plain; (· exact rfl))
        | (apply op_call; (· exact rfl); (· exact rfl); (· exact rfl); (refine (CallWp.up up36 (text27 (t := x) hxs (by assumption) ?_)); intro H1 hB))
        | (apply op_index_at; (· exact rfl); (· exact rfl); (· exact rfl); (· with_reducible exact hin1); (· exact rfl); (· exact rfl))
        | (apply op_load_at; (· exact rfl); (· exact rfl); (· exact ho); (· exact hr1); (· exact partTok x))
        | (apply op_told; (· exact rfl); (· exact congrArg (DV.int _) hw))
        | (apply bx_store; (· exact rfl); (· exact rfl); (· exact rfl); (· assumption); (· (repeat (first | with_reducible exact Upd.here | with_reducible apply Upd.there | with_reducible apply upd_app))); (· exact hset); (· exact rfl); (· exact rfl); intro H1 hB)
        | (apply bx_load0; (· exact rfl); (· exact rfl); (· assumption); (· (repeat (first | with_reducible exact At.here | with_reducible apply At.there | with_reducible apply at_app))); (· (first | exact part57 _ _ _ _ | exact rfl)))
        | (apply bx_store0; (· exact rfl); (· exact rfl); (· exact rfl); (· assumption); (· (first | (dsimp only [putD, DV.cells, DH.new_next, DH.set_next, List.length_cons, List.length_nil, Nat.reduceAdd, List.set_cons_zero, List.set_cons_succ, getD_zero, getD_succ, fieldAt_zero, fieldAt_succ, thenD, blockD, retR, Sv.cells]; done) | (dsimp only [putD, DV.cells, DH.new_next, DH.set_next, List.length_cons, List.length_nil, Nat.reduceAdd, List.set_cons_zero, List.set_cons_succ, getD_zero, getD_succ, fieldAt_zero, fieldAt_succ, thenD, blockD, retR, Sv.cells]; exact rfl) | exact rfl)); (· (repeat (first | with_reducible exact Upd.here | with_reducible apply Upd.there | with_reducible apply upd_app))); (· exact rfl); (· exact rfl); (· exact rfl); (· exact rfl); intro H1 hB)
        | (apply bx_alloc; (· exact rfl); (· exact zero57); (· (first | (dsimp only [putD, DV.cells, DH.new_next, DH.set_next, List.length_cons, List.length_nil, Nat.reduceAdd, List.set_cons_zero, List.set_cons_succ, getD_zero, getD_succ, fieldAt_zero, fieldAt_succ, thenD, blockD, retR, Sv.cells]; done) | (dsimp only [putD, DV.cells, DH.new_next, DH.set_next, List.length_cons, List.length_nil, Nat.reduceAdd, List.set_cons_zero, List.set_cons_succ, getD_zero, getD_succ, fieldAt_zero, fieldAt_succ, thenD, blockD, retR, Sv.cells]; exact rfl) | exact rfl)); (· exact rfl); (· exact rfl); (· assumption); intro b1 H1 hB)
        | (apply op_at; (· exact rfl))
        | (apply dwp_cond_t; (· exact rfl); (· (first | with_reducible assumption | with_reducible rfl | decide)))
        | (apply dwp_cond_f; (· exact rfl); (· (first | with_reducible assumption | with_reducible rfl | decide)))
        | apply dwp_block
        | apply dwp_skip
        | fail)
      refine ⟨⟨bm, _, k + 1, junk_facts ⟨by rw [← hnew]; exact (hB.sub (by (repeat (first | exact List.Sublist.refl _ | exact List.nil_sublist _ | apply List.Sublist.cons_cons | apply List.Sublist.cons | apply List.Sublist.append_left | refine List.Sublist.trans ?_ (List.sublist_append_right _ _))))), by omega, fun i t h1 h2 => ?_⟩ rfl rfl⟩, ?_⟩
      · by_cases e : i = k
        · subst e; rw [hx] at h2; cases h2; exact hb0
        · exact hbef i t (by omega) h2
      · show l.length - ((k + 1 : Nat) : Int).toNat < l.length - (k : Int).toNat
        omega
  · have hc : decide ((k : Int) < (l.length : Int)) = false := by simp; omega
    have hall : ∀ t ∈ l, (textF t).2 = 0 := by
      intro t ht
      obtain ⟨i, hi⟩ := List.getElem?_of_mem ht
      have := (List.getElem?_eq_some_iff.mp hi).1
      exact hbef i t (by omega) hi
    have hj : joinR l = (joinF (l.map fun t => (textF t).1) [32], 0) := by
      unfold joinR
      rw [if_pos]
      rw [List.all_eq_true]
      intro t ht
      simpa using hall t ht
    rw [hj] at hK
    obtain rfl : k = l.length := by omega
    have hrows : ((l.take l.length).map fun t => [DV.str (textF t).1]) ++ List.replicate (l.length - l.length) [DV.str []] = (l.map fun t => (textF t).1).map fun s => [DV.str s] := by
      rw [List.take_length, Nat.sub_self, List.map_map]; simp
    rw [hrows] at hB
    have hlm : l.length = (l.map fun t => (textF t).1).length := by rw [List.length_map]
    have hjl := joinF_len (l.map fun t => (textF t).1) (fun x hx => by
      obtain ⟨t, ht, rfl⟩ := List.mem_map.mp hx
      exact textF_len (hall t ht))
    have hsx : Sl H1 1 ((l.map fun t => (textF t).1).map fun s => [DV.str s]) (some (bm, 0, 1)) := by
      have hob := hB.obj (bm, .rows false 1 ((l.map fun t => (textF t).1).map fun s => [DV.str s])) List.mem_cons_self
      exact .at hob.2.1 hob.2.2 (by simp) (by rw [List.drop_zero]; exact List.take_of_length_le (Nat.le_refl _))
    have hcall : ∀ K', K' (.str (joinF (l.map fun t => (textF t).1) [32])) H1 → CallWp Tryd.prog X6 60 [.sl (some (bm, 0, 1)) l.length l.length true, .str [32]] H1 K' := by
      intro K' hk'
      rw [hlm]
      exact join60 hsx (by rw [← hlm]; omega) (by rw [← hlm] at hjl; omega) hk'
    repeat' (first
      | dsimp only [putD, DV.cells, DH.new_next, DH.set_next, List.length_cons, List.length_nil, Nat.reduceAdd, List.set_cons_zero, List.set_cons_succ, getD_zero, getD_succ, fieldAt_zero, fieldAt_succ, thenD, blockD, retR]
      | apply dwp_seq
      | apply dwp_region
      | apply ops_nil
      | (apply ops_plain; (· exact rfl))
      | (apply op_call; (· exact rfl); (· exact rfl); (· exact rfl); apply hcall)
      | (apply op_at; (· exact rfl))
      | (apply dwp_cond_f; (· exact rfl); (· (first | with_reducible assumption | with_reducible rfl | decide)))
      | apply dwp_ret
      | apply dwp_exit
      | (refine ⟨_, rfl, ?_⟩)
      | fail)
    exact hK _ hB.drop1
end
end Go.Det.C

/- LexBack. -/
namespace Go.Det.C
open Go Go.Det Go.Proofs
set_option maxRecDepth 4000
set_option maxHeartbeats 4000000
set_option linter.unusedVariables false
set_option linter.unusedSimpArgs false
theorem own_slp {A H : DH} {bs x : List (Nat × DObj)} {F : List (Nat × DObj) → List (Nat × DObj)} {fs : List (DH → Prop)} {z : Nat} {R : List (List DV)} {s : Sv} (o : Own1 z R s.dv x) (hB : Bx A H bs fs) (hc : Ctx x bs F) : Sl H z R s.p := by
  obtain ⟨p, c, ex, e, h⟩ := o.sl hB hc
  obtain ⟨q, n, c', ex'⟩ := s
  have e2 : q = p := (DV.sl.inj e).1
  show Sl H z R q
  rw [e2]
  exact h
theorem joinR_cut (l : List Tok) : joinR (l.map cutT) = joinR l := by
  unfold joinR
  have e1 : ((l.map cutT).all fun t => decide ((textF t).2 = 0)) = (l.all fun t => decide ((textF t).2 = 0)) := by
    induction l with
    | nil => rfl
    | cons x l ih => rw [List.map_cons, List.all_cons, List.all_cons, ih, text_cut]
  have e2 : (l.map cutT).map (fun t => (textF t).1) = l.map fun t => (textF t).1 := by
    rw [List.map_map]
    apply List.map_congr_left
    intro t _
    simp only [Function.comp, text_cut]
  rw [e1, e2]
theorem back9 {A : DH} {l : List Tok} {p : Option (Nat × Nat × Nat)} {c : Nat} {ex : Bool} (hll : l.length ≤ 9223372036854775807) (hl : Sl A 4 (l.map Tok.row) p) : CallWp Tryd.prog X6 9 [.sl p l.length c ex] A (fun r _ => r = .bool true) := by
  have hB : Bx A A [] [] := Bx.init (fun f hf => by cases hf)
  obtain ⟨ft, hft⟩ : ∃ ft, ((l.all fun t => decide (t.s.length ≤ 200)) && (few ([] : List UInt8).length && decide (l.length ≤ 300))) = ft := ⟨_, rfl⟩
  cases ft with
  | false =>
    refine enter rfl Tryd.func9 rfl Tryd.ntmps9 rfl ?_
    dsimp only [List.cons_append, List.nil_append, List.length_cons, List.length_nil, List.replicate_succ, List.replicate_zero, Nat.reduceAdd, Nat.reduceSub]
    repeat' (first
      | dsimp only [putD, DV.cells, DH.new_next, DH.set_next, List.length_cons, List.length_nil, Nat.reduceAdd, List.set_cons_zero, List.set_cons_succ, getD_zero, getD_succ, fieldAt_zero, fieldAt_succ, thenD, blockD, retR]
      | apply dwp_seq
      | apply dwp_region
      | apply ops_nil
      | (apply ops_plain; (· exact rfl))
      | (apply op_call; (· exact rfl); (· exact rfl); (· exact rfl); refine call_table (g := gLive) rfl rfl ?_)
      | (apply op_call; (· exact rfl); (· exact rfl); (· exact rfl); (refine CallWp.up up36 (few23t (s := []) hll (fun H' h => hl.mono h.ab) hB ?_); intro H1 hB; rw [hft]))
      | (apply op_at; (· exact rfl))
      | (apply dwp_cond_t; (· exact rfl); (· (first | with_reducible assumption | with_reducible rfl | decide)))
      | apply dwp_ret
      | (refine ⟨_, rfl, ?_⟩)
      | fail)
  | true =>
    have hft' := hft
    simp only [Bool.and_eq_true, decide_eq_true_eq, List.all_eq_true] at hft'
    obtain ⟨h200, _, h300⟩ := hft'
    have hl5 : l.length ≤ 100000 := by omega
    have hss : ∀ t ∈ l, t.s.length ≤ 65536 := fun t ht => by have := h200 t ht; omega
    by_cases hj : (joinR l).2 = 0
    · obtain ⟨hall, hj1⟩ := joinR_ok hj
      obtain ⟨s0, hs0⟩ : ∃ s0, (joinR l).1 = s0 := ⟨_, rfl⟩
      have hjr : joinR l = (s0, 0) := Prod.ext hs0 hj
      obtain ⟨b1, b2, b3⟩ := back hall
      rw [← hj1, hs0] at b1 b2 b3
      cases hbig : decide ((s0.length : Int) > 65536) with
      | true =>
        refine enter rfl Tryd.func9 rfl Tryd.ntmps9 rfl ?_
        dsimp only [List.cons_append, List.nil_append, List.length_cons, List.length_nil, List.replicate_succ, List.replicate_zero, Nat.reduceAdd, Nat.reduceSub]
        repeat' (first
          | dsimp only [putD, DV.cells, DH.new_next, DH.set_next, List.length_cons, List.length_nil, Nat.reduceAdd, List.set_cons_zero, List.set_cons_succ, getD_zero, getD_succ, fieldAt_zero, fieldAt_succ, thenD, blockD, retR]
          | apply dwp_seq
          | apply dwp_region
          | apply ops_nil
          | (apply ops_plain; (· exact rfl))
          | (apply op_call; (· exact rfl); (· exact rfl); (· exact rfl); refine call_table (g := gLive) rfl rfl ?_)
          | (apply op_call; (· exact rfl); (· exact rfl); (· exact rfl); (refine CallWp.up up36 (few23t (s := []) hll (fun H' h => hl.mono h.ab) hB ?_); intro H1 hB; rw [hft]))
          | (apply op_call; (· exact rfl); (· exact rfl); (· exact rfl); (refine join28 hl5 hss (fun H' h => hl.mono h.ab) hB ?_; intro H1 hB; rw [hjr]))
          | (apply op_at; (· exact rfl))
          | (apply dwp_cond_t; (· exact rfl); (· (first | with_reducible assumption | with_reducible rfl | decide)))
          | (apply dwp_cond_f; (· exact rfl); (· (first | with_reducible assumption | with_reducible rfl | decide)))
          | apply dwp_skip
          | apply dwp_ret
          | (refine ⟨_, rfl, ?_⟩)
          | fail)
      | false =>
        have hs6 : s0.length ≤ 65536 := by simp at hbig; omega
        have hjm : joinR (l.map cutT) = (s0, 0) := by rw [joinR_cut, hjr]
        have hl5m : (l.map cutT).length ≤ 100000 := by rw [List.length_map]; exact hl5
        have hssm : ∀ t ∈ l.map cutT, t.s.length ≤ 65536 := by
          intro t ht
          obtain ⟨u, hu, rfl⟩ := List.mem_map.mp ht
          unfold cutT
          split
          · have := textF_len (hall u hu); simp only; omega
          · exact hss u hu
        have hbc : (l.map cutT).map bareT = l.map bareT := by
          rw [List.map_map]
          apply List.map_congr_left
          intro t _
          exact bare_cut t
        have hlbc : ((l.map cutT).map bareT).length ≤ 1000000 := by rw [List.length_map, List.length_map]; omega
        refine enter rfl Tryd.func9 rfl Tryd.ntmps9 rfl ?_
        dsimp only [List.cons_append, List.nil_append, List.length_cons, List.length_nil, List.replicate_succ, List.replicate_zero, Nat.reduceAdd, Nat.reduceSub]
        repeat' (first
          | dsimp only [putD, DV.cells, DH.new_next, DH.set_next, List.length_cons, List.length_nil, Nat.reduceAdd, List.set_cons_zero, List.set_cons_succ, getD_zero, getD_succ, fieldAt_zero, fieldAt_succ, thenD, blockD, retR]
          | apply dwp_seq
          | apply dwp_region
          | apply ops_nil
          | (apply ops_plain; (· exact rfl))
          | (apply ops_on; (· exact rfl); (· exact rfl); (· (first | with_reducible assumption | with_reducible rfl | decide)))
          | (apply op_call; (· exact rfl); (· exact rfl); (· exact rfl); refine call_table (g := gLive) rfl rfl ?_)
          | (apply op_call; (· exact rfl); (· exact rfl); (· exact rfl); (refine CallWp.up up36 (few23t (s := []) hll (fun H' h => hl.mono h.ab) hB ?_); intro H1 hB; rw [hft]))
          | (apply op_call; (· exact rfl); (· exact rfl); (· exact rfl); (refine join28 hl5 hss (fun H' h => hl.mono h.ab) hB ?_; intro H1 hB; rw [hjr]))
          | (apply op_call; (· exact rfl); (· exact rfl); (· exact rfl); (refine CallWp.up up36 (cut_ok (s := s0) hs6 b1 hB ?_); intro s1 s2 x1 x2 H1 o1 o2 hB; rw [b2] at o1; have hnm := own_len o1; rw [List.length_map] at hnm; have hpl : ((s2.n : Int) == ((l.map cutT).length : Int)) = true := (by { rw [own_len o2, List.length_map, b3, List.length_map]; simp }); obtain ⟨pm, nm, cm, exm⟩ := s1; dsimp only at hnm; subst hnm))
          | (apply op_call; (· exact rfl); (· exact rfl); (· exact rfl); (refine join28 (l := l.map cutT) hl5m hssm (fun H' h => own_slp o1 h (by (repeat (first | with_reducible exact Ctx.here | with_reducible apply Ctx.cons | with_reducible apply Ctx.app)))) hB ?_; intro H1 hB; rw [hjm]))
          | (apply op_call; (· exact rfl); (· exact rfl); (· exact rfl); (refine CallWp.up up36 (bare29 (l := l.map cutT) hl5m (fun H' h => own_slp o1 h (by (repeat (first | with_reducible exact Ctx.here | with_reducible apply Ctx.cons | with_reducible apply Ctx.app)))) hB ?_); intro s5 x5 H1 o5 hB))
          | (apply op_call; (· exact rfl); (· exact rfl); (· exact rfl); (refine CallWp.up up36 (bare29 (l := l) hl5 (fun H' h => hl.mono h.ab) hB ?_); intro s6 x6 H1 o6 hB))
          | (apply op_call; (· exact rfl); (· exact rfl); (· exact rfl); (obtain ⟨p5, c5, ex5, e5, sl5⟩ := o5.sl hB (by (repeat (first | with_reducible exact Ctx.here | with_reducible apply Ctx.cons | with_reducible apply Ctx.app))); obtain ⟨p6, c6, ex6, e6, sl6⟩ := o6.sl hB (by (repeat (first | with_reducible exact Ctx.here | with_reducible apply Ctx.cons | with_reducible apply Ctx.app))); rw [e5, e6, List.length_map (f := Tok.row), List.length_map (f := Tok.row)]; refine (CallWp.up up36 (same25 sl5 sl6 hlbc)).mono ?_; rintro r0 H' ⟨rfl, rfl⟩; rw [decide_eq_true hbc]))
          | (apply op_pick_t; (· exact rfl); (· exact rfl); (· (first | with_reducible assumption | with_reducible rfl | decide)); (· exact rfl))
          | (apply bx_store0; (· exact rfl); (· exact rfl); (· exact rfl); (· assumption); (· (first | (dsimp only [putD, DV.cells, DH.new_next, DH.set_next, List.length_cons, List.length_nil, Nat.reduceAdd, List.set_cons_zero, List.set_cons_succ, getD_zero, getD_succ, fieldAt_zero, fieldAt_succ, thenD, blockD, retR, Sv.cells]; done) | (dsimp only [putD, DV.cells, DH.new_next, DH.set_next, List.length_cons, List.length_nil, Nat.reduceAdd, List.set_cons_zero, List.set_cons_succ, getD_zero, getD_succ, fieldAt_zero, fieldAt_succ, thenD, blockD, retR, Sv.cells]; exact rfl) | exact rfl)); (· (repeat (first | with_reducible exact Upd.here | with_reducible apply Upd.there | with_reducible apply upd_app))); (· exact rfl); (· exact rfl); (· exact rfl); (· exact rfl); intro H1 hB)
          | (apply bx_alloc; (· exact rfl); (· exact zero49); (· (first | (dsimp only [putD, DV.cells, DH.new_next, DH.set_next, List.length_cons, List.length_nil, Nat.reduceAdd, List.set_cons_zero, List.set_cons_succ, getD_zero, getD_succ, fieldAt_zero, fieldAt_succ, thenD, blockD, retR, Sv.cells]; done) | (dsimp only [putD, DV.cells, DH.new_next, DH.set_next, List.length_cons, List.length_nil, Nat.reduceAdd, List.set_cons_zero, List.set_cons_succ, getD_zero, getD_succ, fieldAt_zero, fieldAt_succ, thenD, blockD, retR, Sv.cells]; exact rfl) | exact rfl)); (· exact rfl); (· exact rfl); (· assumption); intro b1 H1 hB)
          | (apply op_at; (· exact rfl))
          | (apply dwp_cond_f; (· exact rfl); (· (first | with_reducible assumption | with_reducible rfl | decide)))
          | apply dwp_skip
          | apply dwp_ret
          | (refine ⟨_, rfl, ?_⟩)
          | fail)
        all_goals first | rfl | simp
    · have hj1 : joinR l = ([], 1) := by
        unfold joinR at hj ⊢
        split
        · rename_i h; rw [if_pos h] at hj; exact absurd rfl hj
        · rfl
      refine enter rfl Tryd.func9 rfl Tryd.ntmps9 rfl ?_
      dsimp only [List.cons_append, List.nil_append, List.length_cons, List.length_nil, List.replicate_succ, List.replicate_zero, Nat.reduceAdd, Nat.reduceSub]
      repeat' (first
        | dsimp only [putD, DV.cells, DH.new_next, DH.set_next, List.length_cons, List.length_nil, Nat.reduceAdd, List.set_cons_zero, List.set_cons_succ, getD_zero, getD_succ, fieldAt_zero, fieldAt_succ, thenD, blockD, retR]
        | apply dwp_seq
        | apply dwp_region
        | apply ops_nil
        | (apply ops_plain; (· exact rfl))
        | (apply ops_on; (· exact rfl); (· exact rfl); (· (first | with_reducible assumption | with_reducible rfl | decide)))
        | (apply op_call; (· exact rfl); (· exact rfl); (· exact rfl); refine call_table (g := gLive) rfl rfl ?_)
        | (apply op_call; (· exact rfl); (· exact rfl); (· exact rfl); (refine CallWp.up up36 (few23t (s := []) hll (fun H' h => hl.mono h.ab) hB ?_); intro H1 hB; rw [hft]))
        | (apply op_call; (· exact rfl); (· exact rfl); (· exact rfl); (refine join28 hl5 hss (fun H' h => hl.mono h.ab) hB ?_; intro H1 hB; rw [hj1]))
        | (apply op_pick_t; (· exact rfl); (· exact rfl); (· (first | with_reducible assumption | with_reducible rfl | decide)); (· exact rfl))
        | (apply op_at; (· exact rfl))
        | (apply dwp_cond_t; (· exact rfl); (· (first | with_reducible assumption | with_reducible rfl | decide)))
        | (apply dwp_cond_f; (· exact rfl); (· (first | with_reducible assumption | with_reducible rfl | decide)))
        | apply dwp_skip
        | apply dwp_ret
        | (refine ⟨_, rfl, ?_⟩)
        | fail)
      all_goals first | rfl | simp
end Go.Det.C

/- A row out of what the deterministic reading comes to: slices' weights handed on. -/
namespace Go.Det
set_option linter.unusedVariables false
set_option linter.unusedSimpArgs false
open Go.ChangeShapes Go.WideShapes Go.RowKit
section
variable {P : Program} {A : Type} {enc : TypeId × Value → A} {W : World}
end
end Go.Det
