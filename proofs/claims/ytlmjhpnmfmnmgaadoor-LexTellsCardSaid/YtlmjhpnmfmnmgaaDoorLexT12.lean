/- DecodeRuneInString as a table. -/
import Derived.Shelf.Unicode.DecodeAny
import Derived.Lib.LaidU8
import Derived.Test.YtlmjhpnmfmnmgaaDoorLexT11
namespace Go.Proofs
open Go.Shelf Go.RowKit
-- what the kit's commands 'shelf_lay Lays.n197 Nm 197 at Tryd' and 'shelf_lay Lays.n260 Nm 260 at Tryd' lay, in plain words
def Tryd.lays197_ren : Go.Shelf.Ren := ⟨fun | 197 => 86 | 260 => 98 | n => n, fun | 9 => 9 | 21 => 21 | 3 => 3 | 4 => 4 | 5 => 5 | 105 => 124 | 119 => 152 | 0 => 0 | 46 => 153 | 139 => 156 | 138 => 155 | n => n, fun | 3 => 0 | 4 => 1 | n => n⟩
theorem Tryd.lays197 : Go.Proofs.Lays.n197 Tryd.prog Tryd.lays197_ren where
  mixed := by kernel_rfl
  f197 := Tryd.func86.trans (congrArg some (by kernel_rfl))
  f260 := Tryd.func98.trans (congrArg some (by kernel_rfl))
  t0 := Tryd.underlying0
  a0 := Tryd.isAgg0
  z0 := Tryd.sizeOf0
  v0 := Tryd.zeroValue0
  t3 := Tryd.underlying3
  a3 := Tryd.isAgg3
  z3 := Tryd.sizeOf3
  v3 := Tryd.zeroValue3
  t4 := Tryd.underlying4
  a4 := Tryd.isAgg4
  z4 := Tryd.sizeOf4
  v4 := Tryd.zeroValue4
  t5 := Tryd.underlying5
  a5 := Tryd.isAgg5
  z5 := Tryd.sizeOf5
  v5 := Tryd.zeroValue5
  t9 := Tryd.underlying9
  a9 := Tryd.isAgg9
  z9 := Tryd.sizeOf9
  v9 := Tryd.zeroValue9
  t21 := Tryd.underlying21
  a21 := Tryd.isAgg21
  z21 := Tryd.sizeOf21
  v21 := Tryd.zeroValue21
  t46 := Tryd.underlying153
  a46 := Tryd.isAgg153
  z46 := Tryd.sizeOf153
  v46 := Tryd.zeroValue153
  t105 := Tryd.underlying124
  a105 := Tryd.isAgg124
  z105 := Tryd.sizeOf124
  v105 := Tryd.zeroValue124
  t119 := Tryd.underlying152
  a119 := Tryd.isAgg152
  z119 := Tryd.sizeOf152
  t138 := Tryd.underlying155
  a138 := Tryd.isAgg155
  z138 := Tryd.sizeOf155
  v138 := Tryd.zeroValue155
  t139 := Tryd.underlying156
  a139 := Tryd.isAgg156
  z139 := Tryd.sizeOf156
  v139 := Tryd.zeroValue156
  g3 := by kernel_rfl
  g4 := by kernel_rfl
def Tryd.lays260_ren : Go.Shelf.Ren := ⟨fun | 260 => 98 | n => n, fun | 9 => 9 | 21 => 21 | 3 => 3 | 4 => 4 | 5 => 5 | 119 => 152 | 0 => 0 | 46 => 153 | 139 => 156 | 138 => 155 | n => n, fun | 3 => 0 | 4 => 1 | n => n⟩
theorem Tryd.lays260 : Go.Proofs.Lays.n260 Tryd.prog Tryd.lays260_ren where
  mixed := by kernel_rfl
  f260 := Tryd.func98.trans (congrArg some (by kernel_rfl))
  t0 := Tryd.underlying0
  a0 := Tryd.isAgg0
  z0 := Tryd.sizeOf0
  v0 := Tryd.zeroValue0
  t3 := Tryd.underlying3
  a3 := Tryd.isAgg3
  z3 := Tryd.sizeOf3
  v3 := Tryd.zeroValue3
  t4 := Tryd.underlying4
  a4 := Tryd.isAgg4
  z4 := Tryd.sizeOf4
  v4 := Tryd.zeroValue4
  t5 := Tryd.underlying5
  a5 := Tryd.isAgg5
  z5 := Tryd.sizeOf5
  v5 := Tryd.zeroValue5
  t9 := Tryd.underlying9
  a9 := Tryd.isAgg9
  z9 := Tryd.sizeOf9
  v9 := Tryd.zeroValue9
  t21 := Tryd.underlying21
  a21 := Tryd.isAgg21
  z21 := Tryd.sizeOf21
  v21 := Tryd.zeroValue21
  t46 := Tryd.underlying153
  a46 := Tryd.isAgg153
  z46 := Tryd.sizeOf153
  v46 := Tryd.zeroValue153
  t119 := Tryd.underlying152
  a119 := Tryd.isAgg152
  z119 := Tryd.sizeOf152
  t138 := Tryd.underlying155
  a138 := Tryd.isAgg155
  z138 := Tryd.sizeOf155
  v138 := Tryd.zeroValue155
  t139 := Tryd.underlying156
  a139 := Tryd.isAgg156
  z139 := Tryd.sizeOf156
  v139 := Tryd.zeroValue156
  g3 := by kernel_rfl
  g4 := by kernel_rfl
theorem Tryd.u8extra : U8Extra Tryd.prog Tryd.lays260_ren where
  n3 := by kernel_rfl
  n4 := by kernel_rfl
  y3 := by kernel_rfl
  y4 := by kernel_rfl
  c5 := by kernel_rfl
  c119 := by kernel_rfl
  c138 := by kernel_rfl
end Go.Proofs
namespace Go.Det.C
open Go Go.Det Go.Proofs Go.RowKit
set_option maxRecDepth 4000
set_option linter.unusedVariables false
set_option linter.unusedSimpArgs false
/-- The two tables that the library's decoder reads. -/
def TabsO (o0 o1 : Obj) : Prop := (∀ c, c < 256 → cellAt (some o0) c = some (.int .u8 (Lib.firstT c))) ∧ (∀ i, i < 16 → cellAt (some o1) (2 * i) = some (.int .u8 (Lib.accLo i)) ∧ cellAt (some o1) (2 * i + 1) = some (.int .u8 (Lib.accHi i)))
theorem tabs_of {H : DH} (h : Pins 0 1 TabsO H) {ρ : Rho} {w : World} (ha : Agree ρ H w) : Lib.Utf8Tabs 0 1 w := by
  obtain ⟨o0, o1, h0, h1, ht0, ht1⟩ := h
  obtain ⟨p0, _, hb0, e0⟩ := ha.obj 0 _ h0
  obtain ⟨p1, _, hb1, e1⟩ := ha.obj 1 _ h1
  rw [e0] at hb0
  rw [e1] at hb1
  refine ⟨fun c hc => ?_, fun i hi => ?_⟩
  · rw [cell?_eq, hb0]; exact ht0 c hc
  · rw [cell?_eq, cell?_eq, hb1]; exact ht1 i hi
def decGo (s : List UInt8) : Nat × Nat := if s = [] then (65533, 0) else decL s
theorem decGo_eq (s : List UInt8) : Lib.decodeGo ⟨s.toArray⟩ = decGo s := by
  unfold Lib.decodeGo decGo decL
  have hs : (ByteArray.mk s.toArray).size = s.length := rfl
  rw [hs]
  by_cases h : s = []
  · subst h; rfl
  · rw [if_neg h, if_neg (fun e => h (List.length_eq_zero_iff.mp e))]
open Classical in
noncomputable def gDec : G := fun args H => match args with
  | [.str s] => if Pins 0 1 TabsO H then some (.tuple [.int .i32 (decGo s).1, .int .i64 (decGo s).2], H) else none
  | _ => none
theorem dec86_ok : ExtSound Tryd.prog gDec 86 := by
  intro args H r H' h ρ w vs ha hv
  unfold gDec at h
  split at h
  · rename_i s
    split at h
    · rename_i hp
      cases h
      simp only [VRs] at hv
      obtain ⟨v, r1, e1, h1, e3⟩ := hv
      subst e3
      rw [VR_str_iff] at h1
      have hvs : vs = #[v] := by rw [← Array.toArray_toList (xs := vs), e1]
      subst h1 hvs
      have hcon := Any.utf8_DecodeRuneInString Tryd.lays197 ⟨s.toArray⟩ w (tabs_of hp ha)
      refine callOk_of_calls Tryd.func86 (by kernel_rfl) rfl (Calls.mono (P := Tryd.prog) (f := 86) hcon fun e w' he => ?_)
      obtain ⟨rfl, hb⟩ := he
      rw [decGo_eq]
      exact ⟨ρ, by simp [VR, VRs], moves_below ha hb⟩
    · cases h
  · cases h
theorem pins_up {A H : DH} {g0 g1 : Nat} {T : Obj → Obj → Prop} (hwf : WF A) (h : Pins g0 g1 T A) (ha : Above A H) : Pins g0 g1 T H := by
  obtain ⟨o0, o1, h0, h1, ht⟩ := h
  exact ⟨o0, o1, ha.obj (hwf _ _ h0) h0, ha.obj (hwf _ _ h1) h1, ht⟩
/-- What the row asks of the variables is what the decoder reads. -/
theorem tabs_laid {w : World} (h3 : Lib.VarReads Tryd.prog w "unicode/utf8.first" Lib.firstData) (h4 : Lib.VarReads Tryd.prog w "unicode/utf8.acceptRanges" Lib.acceptData) : ∃ o0 o1, w.heap[0]? = some o0 ∧ w.heap[1]? = some o1 ∧ TabsO o0 o1 := by
  have h := utf8Tabs_of_reads Tryd.lays260 Tryd.u8extra h3 h4
  obtain ⟨ht0, ht1⟩ : Lib.Utf8Tabs 0 1 w := h
  have c0 := ht0 0 (by decide)
  have c1 := (ht1 0 (by decide)).1
  rw [cell?_eq] at c0 c1
  cases hb0 : w.heap[0]? with
  | none => rw [hb0] at c0; cases c0
  | some o0 =>
    cases hb1 : w.heap[1]? with
    | none => rw [hb1] at c1; cases c1
    | some o1 =>
      refine ⟨o0, o1, rfl, rfl, fun c hc => ?_, fun i hi => ?_⟩
      · have := ht0 c hc; rw [cell?_eq, hb0] at this; exact this
      · have := ht1 i hi; rw [cell?_eq, cell?_eq, hb1] at this; exact this
end Go.Det.C

/- Remarks: what is cut is the same. -/
namespace Go.Det.C
open Go Go.Det Go.Proofs
set_option maxRecDepth 4000
set_option linter.unusedVariables false
set_option linter.unusedSimpArgs false
/-- Two cutters, alike but for places. -/
structure Alike (c d : Cu) : Prop where
  toks : c.toks = d.toks
  piece : c.piece = d.piece
  remark : c.remark = d.remark
  e : c.e = d.e
theorem Alike.refl (c : Cu) : Alike c c := ⟨rfl, rfl, rfl, rfl⟩
theorem Alike.fail {c d : Cu} (h : Alike c d) (p p' : Int × Int) (e : Int) : Alike (c.fail p e) (d.fail p' e) := by
  unfold Cu.fail
  rw [h.e]
  split
  · exact ⟨h.toks, h.piece, h.remark, rfl⟩
  · exact h
theorem Alike.add {c d : Cu} (h : Alike c d) (t : Tok) (p p' : Int × Int) : Alike (c.add t p) (d.add t p') := by
  unfold Cu.add
  exact ⟨by simp [h.toks], h.piece, h.remark, h.e⟩
theorem Alike.cut {c d : Cu} (h : Alike c d) : Alike c.cut d.cut := ⟨h.toks, rfl, h.remark, h.e⟩
theorem Alike.fin {c d : Cu} (h : Alike c d) : Alike c.fin d.fin := by
  unfold Cu.fin
  rw [h.piece]
  split
  · exact h.cut
  · split
    · split
      · exact h.cut.add _ _ _
      · exact (h.cut.fail _ _ _).add _ _ _
    · split
      · exact h.cut.fail _ _ _
      · exact h.cut.add _ _ _
theorem Alike.take {c d : Cu} (h : Alike c d) (p p' : Int × Int) (r : Int) : Alike (c.take p r) (d.take p' r) := by
  have hr : Alike { c with remark := false } { d with remark := false } := ⟨h.toks, h.piece, rfl, h.e⟩
  have hf := hr.fin
  have h0 := h
  obtain ⟨toks, places, piece, a, rem, w, e⟩ := c
  obtain ⟨toks', places', piece', a', rem', w', e'⟩ := d
  obtain ⟨q1, q2, q3, q4⟩ := h0
  simp only at q1 q2 q3 q4
  subst q1 q2 q3 q4
  unfold Cu.take
  simp only at hf ⊢
  split
  · exact h
  · split
    · exact ⟨h.toks, rfl, rfl, h.e⟩
    · split
      · exact hf
      · split
        · exact ⟨hf.toks, hf.piece, rfl, hf.e⟩
        · split
          · exact hf.add _ _ _
          · split
            · exact ⟨hf.toks, by simp [hf.piece], hf.remark, hf.e⟩
            · exact hf.fail _ _ _
theorem Alike.step {c d : Cu} (h : Alike c d) (p p' : Int × Int) (x : Int × Bool) : Alike (stepR c p x) (stepR d p' x) := by
  unfold stepR
  split
  · exact (h.fin.fail _ _ _).take _ _ _
  · exact h.take _ _ _
theorem goR_cons (x : Int × Bool) (r : List (Int × Bool)) (c : Cu) (p : Int × Int) : goR (x :: r) c p = if (stepR c p x).e = 0 then goR r (stepR c p x) (nextP p x.1) else stepR c p x := rfl
theorem Alike.go {r : List (Int × Bool)} : ∀ {c d : Cu} (h : Alike c d) (p p' : Int × Int), Alike (goR r c p) (goR r d p') := by
  induction r with
  | nil => intro c d h p p'; exact h.fin
  | cons x r ih =>
    intro c d h p p'
    have hs := h.step p p' x
    rw [goR_cons, goR_cons, hs.e]
    split
    · exact ih hs _ _
    · exact hs
/-- Where runes lead to, up to the first fault. -/
noncomputable def foldR : List (Int × Bool) → Cu → Int × Int → Cu × (Int × Int)
  | [], c, p => (c, p)
  | x :: r, c, p => if (stepR c p x).e = 0 then foldR r (stepR c p x) (nextP p x.1) else (stepR c p x, p)
theorem foldR_cons (x : Int × Bool) (r : List (Int × Bool)) (c : Cu) (p : Int × Int) : foldR (x :: r) c p = if (stepR c p x).e = 0 then foldR r (stepR c p x) (nextP p x.1) else (stepR c p x, p) := rfl
theorem goR_app (b : List (Int × Bool)) : ∀ (a : List (Int × Bool)) (c : Cu) (p : Int × Int), c.e = 0 → goR (a ++ b) c p = if (foldR a c p).1.e = 0 then goR b (foldR a c p).1 (foldR a c p).2 else (foldR a c p).1 := by
  intro a
  induction a with
  | nil => intro c p h; simp only [List.nil_append, foldR, h, if_true]
  | cons x a ih =>
    intro c p h
    rw [List.cons_append]
    rw [goR_cons, foldR_cons]
    by_cases hs : (stepR c p x).e = 0
    · rw [if_pos hs, if_pos hs]; exact ih _ _ hs
    · simp only [hs, if_false]
/-- In a remark, what is no line's end is passed over. -/
theorem goR_remark : ∀ (r : List (Int × Bool)) (c : Cu) (p : Int × Int), (∀ x ∈ r, x.2 = false ∧ x.1 ≠ 10) → c.remark = true → c.e = 0 → ∃ p', goR r c p = goR [] c p' := by
  intro r
  induction r with
  | nil => intro c p _ _ _; exact ⟨p, rfl⟩
  | cons x r ih =>
    intro c p h hc he
    obtain ⟨h1, h2⟩ := h x List.mem_cons_self
    have hs : stepR c p x = c := by
      unfold stepR Cu.take
      rw [h1]
      simp only [Bool.false_eq_true, if_false]
      rw [if_pos ⟨hc, h2⟩]
    obtain ⟨p', hp⟩ := ih c (nextP p x.1) (fun y hy => h y (List.mem_cons_of_mem _ hy)) hc he
    refine ⟨p', ?_⟩
    rw [← hp]
    conv => lhs; rw [goR_cons]
    rw [hs, if_pos he]
theorem step_blank {c : Cu} (p : Int × Int) {r : Int} (hr : r = 32 ∨ r = 9 ∨ r = 10) (h1 : c.piece = []) (h2 : c.remark = false) : stepR c p (r, false) = c := by
  obtain ⟨toks, places, piece, a, rem, w, e⟩ := c
  simp only at h1 h2
  subst h1 h2
  unfold stepR Cu.take
  have hl : ¬ (isLet r = true ∨ isDgt r = true) := by
    rcases hr with rfl | rfl | rfl <;> decide
  simp only [Bool.false_eq_true, false_and, if_false]
  rw [if_neg hl, if_pos hr]
  rfl
def Cu.rem (c : Cu) : Cu := { c with remark := true }
theorem step_hash {c : Cu} (p : Int × Int) (h1 : c.piece = []) (h2 : c.remark = false) : stepR c p (35, false) = c.rem := by
  obtain ⟨toks, places, piece, a, rem, w, e⟩ := c
  simp only at h1 h2
  subst h1 h2
  unfold stepR Cu.take
  have hl : ¬ (isLet 35 = true ∨ isDgt 35 = true) := by decide
  simp only [Bool.false_eq_true, false_and, if_false]
  rw [if_neg hl, if_neg (by decide), if_pos trivial]
  rfl
theorem goR_blanks (b : List (Int × Bool)) : ∀ (l : List UInt8) (p : Int × Int), (∀ x ∈ l, x = 32 ∨ x = 9 ∨ x = 10) → ∃ p', goR (l.map (fun x => ((x.toNat : Int), false)) ++ b) cu0 p = goR b cu0 p' := by
  intro l
  induction l with
  | nil => intro p _; exact ⟨p, rfl⟩
  | cons x l ih =>
    intro p h
    have hx := h x List.mem_cons_self
    have hs : stepR cu0 p ((x.toNat : Int), false) = cu0 := by
      rcases hx with rfl | rfl | rfl
      · exact step_blank p (.inl rfl) rfl rfl
      · exact step_blank p (.inr (.inl rfl)) rfl rfl
      · exact step_blank p (.inr (.inr rfl)) rfl rfl
    obtain ⟨p', hp⟩ := ih (nextP p (x.toNat : Int)) (fun y hy => h y (List.mem_cons_of_mem _ hy))
    refine ⟨p', ?_⟩
    rw [← hp, List.map_cons, List.cons_append]
    conv => lhs; rw [goR_cons]
    rw [hs]
    rfl
theorem runes_ascii_app (m : List UInt8) : ∀ (l : List UInt8), (∀ x ∈ l, x.toNat < 128) → runes (l ++ m) = l.map (fun x => ((x.toNat : Int), false)) ++ runes m := by
  intro l
  induction l with
  | nil => intro _; rfl
  | cons x l ih =>
    intro h
    rw [List.cons_append, runes_ascii (h x List.mem_cons_self), ih (fun y hy => h y (List.mem_cons_of_mem _ hy))]
    rfl
/-- A remark's text. -/
def Plain (c : List UInt8) : Prop := ∀ x ∈ runes c, x.2 = false ∧ x.1 ≠ 10
theorem remarks (pad s c : List UInt8) (hp : ∀ x ∈ pad, x = 32 ∨ x = 9 ∨ x = 10) (hc : Plain c) : (cutF (pad ++ s ++ [10, 35] ++ c)).e = (cutF s).e ∧ ((cutF s).e = 0 → (cutF (pad ++ s ++ [10, 35] ++ c)).toks = (cutF s).toks) := by
  have hpa : ∀ x ∈ pad, x.toNat < 128 := fun x hx => by rcases hp x hx with rfl | rfl | rfl <;> decide
  have e1 : pad ++ s ++ [10, 35] ++ c = pad ++ (s ++ 10 :: (35 :: c)) := by simp
  have e2 : runes (10 :: 35 :: c) = (10, false) :: (35, false) :: runes c := by
    rw [runes_ascii (by decide), runes_ascii (by decide)]; rfl
  unfold cutF
  rw [e1, runes_ascii_app _ _ hpa, runes_app _ _ _ (Nat.le_refl _), e2]
  obtain ⟨p', h1⟩ := goR_blanks (runes s ++ (10, false) :: (35, false) :: runes c) pad (1, 1) hp
  rw [h1, goR_app _ _ _ _ rfl]
  have hs : goR (runes s ++ []) cu0 (1, 1) = _ := goR_app [] (runes s) cu0 (1, 1) rfl
  rw [List.append_nil] at hs
  have hal : Alike (foldR (runes s) cu0 p').1 (foldR (runes s) cu0 (1, 1)).1 := by
    have : ∀ (r : List (Int × Bool)) (c d : Cu) (p q : Int × Int), Alike c d → Alike (foldR r c p).1 (foldR r d q).1 := by
      intro r
      induction r with
      | nil => intro c d p q h; exact h
      | cons x r ih =>
        intro c d p q h
        have hst := h.step p q x
        unfold foldR
        rw [hst.e]
        split
        · exact ih _ _ _ _ hst
        · exact hst
    exact this _ _ _ _ _ (Alike.refl _)
  rw [hs]
  generalize (foldR (runes s) cu0 p') = f at hal
  generalize (foldR (runes s) cu0 (1, 1)) = g at hal
  obtain ⟨f, fp⟩ := f
  obtain ⟨g, gp⟩ := g
  simp only at hal ⊢
  by_cases he : g.e = 0
  · have he' : f.e = 0 := by rw [hal.e]; exact he
    rw [if_pos he, if_pos he']
    -- the line's end
    have hst : stepR f fp (10, false) = Cu.fin { f with remark := false } := by
      unfold stepR Cu.take
      simp only [Bool.false_eq_true, if_false]
      rw [if_neg (by simp), if_neg (by decide), if_pos (by simp)]
    have hfr : ∀ b : Bool, (Cu.fin { f with remark := b }).e = f.fin.e ∧ (Cu.fin { f with remark := b }).toks = f.fin.toks := by
      intro b
      unfold Cu.fin Cu.cut Cu.fail Cu.add
      constructor
      · (repeat' split) <;> simp_all
      · (repeat' split) <;> simp_all
    have hfin := hal.fin
    obtain ⟨k1, k2, k3, k4⟩ := fin_len { f with remark := false }
    rw [goR_cons, hst]
    split
    · rename_i hz
      rw [goR_cons, step_hash _ k3 k4]
      rw [if_pos (show (Cu.fin { f with remark := false }).rem.e = 0 from hz)]
      obtain ⟨p2, hr⟩ := goR_remark (runes c) (Cu.fin { f with remark := false }).rem (nextP (nextP fp 10) 35) hc rfl hz
      rw [hr]
      have hlast : ∀ d : Cu, d.piece = [] → ∀ p, goR [] d p = d.cut := by
        intro d hd p
        show d.fin = d.cut
        unfold Cu.fin
        rw [if_pos hd]
      rw [hlast (Cu.fin { f with remark := false }).rem k3]
      have h0 := hfr false
      constructor
      · show (Cu.fin { f with remark := false }).e = g.fin.e
        rw [h0.1, hfin.e]
      · intro _
        show (Cu.fin { f with remark := false }).toks = g.fin.toks
        rw [h0.2, hfin.toks]
    · rename_i hz
      have h0 := hfr false
      constructor
      · show (Cu.fin { f with remark := false }).e = g.fin.e
        rw [h0.1, hfin.e]
      · intro hg
        exfalso
        apply hz
        rw [h0.1, hfin.e]
        exact hg
  · have he' : ¬ f.e = 0 := by rw [hal.e]; exact he
    rw [if_neg he, if_neg he']
    exact ⟨hal.e, fun _ => hal.toks⟩
theorem remark_alone (c : List UInt8) (hc : Plain c) : (cutF ([35, 32] ++ c)).e = 0 ∧ (cutF ([35, 32] ++ c)).toks = [] := by
  have e2 : runes ([35, 32] ++ c) = (35, false) :: (32, false) :: runes c := by
    show runes (35 :: 32 :: c) = _
    rw [runes_ascii (by decide), runes_ascii (by decide)]; rfl
  unfold cutF
  rw [e2]
  rw [goR_cons, step_hash _ rfl rfl]
  rw [if_pos (by rfl)]
  obtain ⟨p2, hr⟩ := goR_remark ((32, false) :: runes c) cu0.rem (nextP (1, 1) 35) (fun x hx => by
    rcases List.mem_cons.mp hx with rfl | hx
    · exact ⟨rfl, by decide⟩
    · exact hc x hx) rfl rfl
  rw [hr]
  exact ⟨rfl, rfl⟩
end Go.Det.C

/- Times: what a product is, where it is no more than a time may be. -/
namespace Go.Det.C
open Go Go.Det Go.Proofs
set_option maxRecDepth 4000
set_option maxHeartbeats 4000000
set_option linter.unusedVariables false
set_option linter.unusedSimpArgs false
theorem wrapU {n : Int} (h : 0 ≤ n ∧ n < 18446744073709551616) : IntKind.u64.wrap n = n := by
  unfold IntKind.wrap
  simp only [IntKind.signed, IntKind.bits]
  simp
  omega
/-- Is it a time? -/
def Fit (n : Int) : Prop := -1152921504606846976 ≤ n ∧ n ≤ 1152921504606846976
theorem size70x {a : Int} (h : Fit a) (H : DH) : CallWp Tryd.prog X1 70 [.int .i64 a] H (fun r H' => r = .int .u64 (a.natAbs : Int) ∧ H' = H) := by
  unfold Fit at h
  cases hn : decide (a < 0) with
  | true =>
    have hn' : a < 0 := by simpa using hn
    refine enter rfl Tryd.func70 rfl Tryd.ntmps70 rfl ?_
    dsimp only [List.cons_append, List.nil_append, List.length_cons, List.length_nil, List.replicate_succ, List.replicate_zero, Nat.reduceAdd, Nat.reduceSub]
    repeat' (first
      | dsimp only [putD, DV.cells, DH.new_next, DH.set_next, List.length_cons, List.length_nil, Nat.reduceAdd, List.set_cons_zero, List.set_cons_succ, getD_zero, getD_succ, fieldAt_zero, fieldAt_succ, thenD, blockD, retR]
      | apply dwp_seq
      | apply dwp_region
      | apply ops_nil
      | (apply ops_plain; (· exact rfl))
      | (apply op_at; (· exact rfl))
      | (apply dwp_cond_t; (· exact rfl); (· (first | with_reducible assumption | with_reducible rfl | decide)))
      | apply dwp_ret
      | (refine ⟨_, rfl, ?_⟩)
      | fail)
    refine ⟨congrArg (DV.int _) ?_, rfl⟩
    have e : IntKind.u64.wrap a = 18446744073709551616 + a := by
      unfold IntKind.wrap
      simp only [IntKind.signed, IntKind.bits]
      simp
      omega
    rw [e]
    unfold IntKind.wrap
    simp only [IntKind.signed, IntKind.bits]
    simp
    omega
  | false =>
    have hn' : ¬ a < 0 := by simpa using hn
    refine enter rfl Tryd.func70 rfl Tryd.ntmps70 rfl ?_
    dsimp only [List.cons_append, List.nil_append, List.length_cons, List.length_nil, List.replicate_succ, List.replicate_zero, Nat.reduceAdd, Nat.reduceSub]
    repeat' (first
      | dsimp only [putD, DV.cells, DH.new_next, DH.set_next, List.length_cons, List.length_nil, Nat.reduceAdd, List.set_cons_zero, List.set_cons_succ, getD_zero, getD_succ, fieldAt_zero, fieldAt_succ, thenD, blockD, retR]
      | apply dwp_seq
      | apply dwp_region
      | apply ops_nil
      | (apply ops_plain; (· exact rfl))
      | (apply op_at; (· exact rfl))
      | (apply dwp_cond_f; (· exact rfl); (· (first | with_reducible assumption | with_reducible rfl | decide)))
      | apply dwp_skip
      | apply dwp_ret
      | (refine ⟨_, rfl, ?_⟩)
      | fail)
    refine ⟨congrArg (DV.int _) ?_, rfl⟩
    rw [wrapU (by omega)]
    omega
theorem far89x {a : Int} (h : Fit a) (H : DH) : CallWp Tryd.prog X1 89 [.int .i64 a] H (fun r H' => r = .bool false ∧ H' = H) := by
  have h1 : decide (a > 1152921504606846976) = false := by unfold Fit at h; simp; omega
  have h2 : decide (a < -1152921504606846976) = false := by unfold Fit at h; simp; omega
  refine enter rfl Tryd.func89 rfl Tryd.ntmps89 rfl ?_
  dsimp only [List.cons_append, List.nil_append, List.length_cons, List.length_nil, List.replicate_succ, List.replicate_zero, Nat.reduceAdd, Nat.reduceSub]
  repeat' (first
    | dsimp only [putD, DV.cells, DH.new_next, DH.set_next, List.length_cons, List.length_nil, Nat.reduceAdd, List.set_cons_zero, List.set_cons_succ, getD_zero, getD_succ, fieldAt_zero, fieldAt_succ, thenD, blockD, retR]
    | apply dwp_seq
    | apply dwp_region
    | apply ops_nil
    | (apply ops_plain; (· exact rfl))
    | (apply ops_on; (· exact rfl); (· exact rfl); (· (first | with_reducible assumption | with_reducible rfl | decide)))
    | (apply op_pick_f; (· exact rfl); (· exact rfl); (· (first | with_reducible assumption | with_reducible rfl | decide)); (· exact rfl))
    | (apply op_at; (· exact rfl))
    | apply dwp_ret
    | (refine ⟨_, rfl, ?_⟩)
    | fail)
  first | exact ⟨rfl, rfl⟩ | exact ⟨by rw [h2], rfl⟩
/-- What lies in a slice of three times, or of one. -/
inductive Times (H : DH) : DV → Prop
  | three {b : Nat} {x y z : Int} : H.obj b = some (.rows false 1 [[.int .i64 x], [.int .i64 y], [.int .i64 z]]) → Fit x → Fit y → Fit z → Times H (.sl (some (b, 0, 1)) 3 3 true)
  | one {b : Nat} {x : Int} : H.obj b = some (.rows false 1 [[.int .i64 x]]) → Fit x → Times H (.sl (some (b, 0, 1)) 1 1 true)
theorem index99x {s : DV} {H : DH} (h : Times H s) : CallWp Tryd.prog X1 99 [s, .func (.func 89) [] []] H (fun r H' => r = .int .i64 (-1) ∧ H' = H) := by
  cases h with
  | three h f1 f2 f3 =>
    refine enter rfl Tryd.func99 rfl Tryd.ntmps99 rfl ?_
    dsimp only [List.cons_append, List.nil_append, List.length_cons, List.length_nil, List.replicate_succ, List.replicate_zero, Nat.reduceAdd, Nat.reduceSub]
    repeat' (first
      | dsimp only [putD, DV.cells, DH.new_next, DH.set_next, List.length_cons, List.length_nil, Nat.reduceAdd, List.set_cons_zero, List.set_cons_succ, getD_zero, getD_succ, fieldAt_zero, fieldAt_succ, thenD, blockD, retR]
      | refine dwp_round ?_
      | apply dwp_seq
      | apply dwp_region
      | apply ops_nil
      | (apply ops_plain; (· exact rfl))
      | (apply op_call; (· exact rfl); (· exact rfl); (· exact rfl); (refine (far89x f1 _).mono ?_; rintro r H' ⟨rfl, rfl⟩))
      | (apply op_call; (· exact rfl); (· exact rfl); (· exact rfl); (refine (far89x f2 _).mono ?_; rintro r H' ⟨rfl, rfl⟩))
      | (apply op_call; (· exact rfl); (· exact rfl); (· exact rfl); (refine (far89x f3 _).mono ?_; rintro r H' ⟨rfl, rfl⟩))
      | (apply op_load_at; (· exact rfl); (· exact rfl); (· exact h); (· exact rfl); (· exact rfl))
      | (apply op_at; (· exact rfl))
      | (apply dwp_cond_t; (· exact rfl); (· (first | with_reducible assumption | with_reducible rfl | decide)))
      | (apply dwp_cond_f; (· exact rfl); (· (first | with_reducible assumption | with_reducible rfl | decide)))
      | apply dwp_block
      | apply dwp_skip
      | apply dwp_ret
      | apply dwp_exit
      | (refine ⟨_, rfl, ?_⟩)
      | fail)
    exact ⟨rfl, rfl⟩
  | one h f1 =>
    refine enter rfl Tryd.func99 rfl Tryd.ntmps99 rfl ?_
    dsimp only [List.cons_append, List.nil_append, List.length_cons, List.length_nil, List.replicate_succ, List.replicate_zero, Nat.reduceAdd, Nat.reduceSub]
    repeat' (first
      | dsimp only [putD, DV.cells, DH.new_next, DH.set_next, List.length_cons, List.length_nil, Nat.reduceAdd, List.set_cons_zero, List.set_cons_succ, getD_zero, getD_succ, fieldAt_zero, fieldAt_succ, thenD, blockD, retR]
      | refine dwp_round ?_
      | apply dwp_seq
      | apply dwp_region
      | apply ops_nil
      | (apply ops_plain; (· exact rfl))
      | (apply op_call; (· exact rfl); (· exact rfl); (· exact rfl); (refine (far89x f1 _).mono ?_; rintro r H' ⟨rfl, rfl⟩))
      | (apply op_load_at; (· exact rfl); (· exact rfl); (· exact h); (· exact rfl); (· exact rfl))
      | (apply op_at; (· exact rfl))
      | (apply dwp_cond_t; (· exact rfl); (· (first | with_reducible assumption | with_reducible rfl | decide)))
      | (apply dwp_cond_f; (· exact rfl); (· (first | with_reducible assumption | with_reducible rfl | decide)))
      | apply dwp_block
      | apply dwp_skip
      | apply dwp_ret
      | apply dwp_exit
      | (refine ⟨_, rfl, ?_⟩)
      | fail)
    exact ⟨rfl, rfl⟩
theorem has88x {s : DV} {H : DH} (h : Times H s) : CallWp Tryd.prog X1 88 [s, .func (.func 89) [] []] H (fun r H' => r = .bool false ∧ H' = H) := by
  refine enter rfl Tryd.func88 rfl Tryd.ntmps88 rfl ?_
  dsimp only [List.cons_append, List.nil_append, List.length_cons, List.length_nil, List.replicate_succ, List.replicate_zero, Nat.reduceAdd, Nat.reduceSub]
  repeat' (first
    | dsimp only [putD, DV.cells, DH.new_next, DH.set_next, List.length_cons, List.length_nil, Nat.reduceAdd, List.set_cons_zero, List.set_cons_succ, getD_zero, getD_succ, fieldAt_zero, fieldAt_succ, thenD, blockD, retR]
    | apply dwp_seq
    | apply dwp_region
    | apply ops_nil
    | (apply ops_plain; (· exact rfl))
    | (apply op_call; (· exact rfl); (· exact rfl); (· exact rfl); (refine (index99x h).mono ?_; rintro r H' ⟨rfl, rfl⟩))
    | (apply op_at; (· exact rfl))
    | apply dwp_ret
    | (refine ⟨_, rfl, ?_⟩)
    | fail)
  exact ⟨rfl, rfl⟩
theorem may69x {s : DV} {H : DH} (h : Times H s) : CallWp Tryd.prog X1 69 [s] H (fun r H' => r = .bool true ∧ H' = H) := by
  refine enter rfl Tryd.func69 rfl Tryd.ntmps69 rfl ?_
  dsimp only [List.cons_append, List.nil_append, List.length_cons, List.length_nil, List.replicate_succ, List.replicate_zero, Nat.reduceAdd, Nat.reduceSub]
  repeat' (first
    | dsimp only [putD, DV.cells, DH.new_next, DH.set_next, List.length_cons, List.length_nil, Nat.reduceAdd, List.set_cons_zero, List.set_cons_succ, getD_zero, getD_succ, fieldAt_zero, fieldAt_succ, thenD, blockD, retR]
    | apply dwp_seq
    | apply dwp_region
    | apply ops_nil
    | (apply ops_plain; (· exact rfl))
    | (apply op_call; (· exact rfl); (· exact rfl); (· exact rfl); (refine (has88x h).mono ?_; rintro r H' ⟨rfl, rfl⟩))
    | (apply op_at; (· exact rfl))
    | apply dwp_ret
    | (refine ⟨_, rfl, ?_⟩)
    | fail)
  exact ⟨rfl, rfl⟩
end Go.Det.C

/- Times are read: what they are. -/
namespace Go.Det.C
open Go Go.Det Go.Proofs
set_option maxRecDepth 4000
set_option maxHeartbeats 4000000
set_option linter.unusedVariables false
set_option linter.unusedSimpArgs false
theorem wrapB {n : Int} (h : 0 ≤ n ∧ n < 256) : IntKind.u8.wrap n = n := by
  unfold IntKind.wrap
  simp only [IntKind.signed, IntKind.bits]
  simp
  omega
end Go.Det.C

/- A number's text. -/
namespace Go.Det.C
open Go Go.Det Go.Proofs
set_option maxRecDepth 4000
set_option maxHeartbeats 4000000
set_option linter.unusedVariables false
set_option linter.unusedSimpArgs false
/-- A number's digits. -/
def decN (n : Nat) : List UInt8 := if h : n < 10 then [UInt8.ofNat (48 + n)] else decN (n / 10) ++ [UInt8.ofNat (48 + n % 10)]
termination_by n
decreasing_by omega
theorem decN_lt {n : Nat} (h : n < 10) : decN n = [UInt8.ofNat (48 + n)] := by rw [decN, dif_pos h]
theorem decN_ge {n : Nat} (h : ¬ n < 10) : decN n = decN (n / 10) ++ [UInt8.ofNat (48 + n % 10)] := by conv => lhs; rw [decN]; rw [dif_neg h]
def decF (n : Int) : List UInt8 := if n < 0 then 45 :: decN n.natAbs else decN n.natAbs
theorem ofNat_dig {n : Nat} (h : n < 10) : (UInt8.ofNat (48 + n)).toNat = 48 + n ∧ isDig (UInt8.ofNat (48 + n)) = true := by
  have e : (UInt8.ofNat (48 + n)).toNat = 48 + n := by rw [UInt8.toNat_ofNat']; omega
  refine ⟨e, ?_⟩
  unfold isDig
  simp only [Bool.and_eq_true, decide_eq_true_eq, UInt8.le_iff_toNat_le, e]
  have h3 : (48 : UInt8).toNat = 48 := rfl
  have h4 : (57 : UInt8).toNat = 57 := rfl
  omega
theorem decN_len : ∀ (k n : Nat), n < 10 ^ (k + 1) → (decN n).length ≤ k + 1 := by
  intro k
  induction k with
  | zero =>
    intro n hn
    rw [decN_lt (by simpa using hn)]
    exact Nat.le_refl _
  | succ k ih =>
    intro n hn
    by_cases h : n < 10
    · rw [decN_lt h]; simp
    · rw [decN_ge h, List.length_append]
      have := ih (n / 10) (by rw [Nat.pow_succ] at hn; omega)
      simp only [List.length_cons, List.length_nil]
      omega
/-- A slice of one's own that is not empty leads to a box. -/
theorem own_box {z : Nat} {R : List (List DV)} {s : Sv} {bx : List (Nat × DObj)} (h : Own1 z R s.dv bx) (hR : R ≠ []) : ∃ b c ex rs, s = ⟨some (b, 0, z), R.length, c, ex⟩ ∧ bx = [(b, .rows false z rs)] ∧ rs.take R.length = R ∧ R.length ≤ rs.length ∧ c = rs.length := by
  obtain ⟨p, n, c, ex⟩ := s
  unfold Sv.dv at h
  dsimp only at h ⊢
  generalize hd : DV.sl p n c ex = d at h
  cases h with
  | nil h => exact absurd h hR
  | @«at» b c' ex' rs h1 h2 h3 =>
    cases hd
    exact ⟨_, _, _, _, rfl, rfl, h3, by rw [← h1]; exact h2, h1⟩
theorem rowsB_get (l : List UInt8) (j : Nat) : (rowsB l)[j]? = (l[j]?).map fun b => [DV.int .u8 b.toNat] := by simp [rowsB]
theorem rowsB_set (l : List UInt8) (j : Nat) (c : UInt8) : rowsB (l.set j c) = (rowsB l).set j [DV.int .u8 c.toNat] := by simp [rowsB]
theorem setRow1 {rs : List (List DV)} {j : Nat} {a b : DV} (h : rs[j]? = some [a]) (h1 : DV.one b = true) (hc : b.cells = [b]) : setRow rs j 0 b.cells = some (rs.set j [b]) := by
  unfold setRow
  rw [h, hc]
  simp only
  rw [if_pos ⟨by simp, by simp [h1]⟩]
  rfl
theorem rev_done {cur orig : List UInt8} {i : Nat} (hl : cur.length = orig.length) (h : ∀ j, j < orig.length → cur[j]? = if j < i ∨ orig.length ≤ j + i then orig[orig.length - 1 - j]? else orig[j]?) (hi : orig.length ≤ 2 * i + 1) : cur = orig.reverse := by
  apply List.ext_getElem?
  intro j
  by_cases hj : j < orig.length
  · rw [h j hj, List.getElem?_reverse hj]
    split
    · rfl
    · rw [show orig.length - 1 - j = j by omega]
  · rw [List.getElem?_eq_none (by omega), List.getElem?_eq_none (by simp; omega)]
theorem rev_step {cur orig : List UInt8} {i : Nat} {x y : UInt8} (hl : cur.length = orig.length) (h : ∀ j, j < orig.length → cur[j]? = if j < i ∨ orig.length ≤ j + i then orig[orig.length - 1 - j]? else orig[j]?) (hi : i < orig.length - 1 - i) (hx : cur[i]? = some x) (hy : cur[orig.length - 1 - i]? = some y) :
    ((cur.set i y).set (orig.length - 1 - i) x).length = orig.length ∧ ∀ j, j < orig.length → ((cur.set i y).set (orig.length - 1 - i) x)[j]? = if j < i + 1 ∨ orig.length ≤ j + (i + 1) then orig[orig.length - 1 - j]? else orig[j]? := by
  refine ⟨by simp [hl], fun j hj => ?_⟩
  have hx' := h i (by omega)
  have hy' := h (orig.length - 1 - i) (by omega)
  rw [hx, if_neg (by omega)] at hx'
  rw [hy, if_neg (by omega)] at hy'
  rw [List.getElem?_set]
  by_cases h1 : orig.length - 1 - i = j
  · rw [if_pos h1, if_pos (by simp; omega), if_pos (by omega), ← h1, show orig.length - 1 - (orig.length - 1 - i) = i by omega]
    exact hx'
  · rw [if_neg h1, List.getElem?_set]
    by_cases h2 : i = j
    · subst h2
      rw [if_pos rfl, if_pos (by omega), if_pos (by omega)]
      exact hy'
    · rw [if_neg h2, h j hj]
      by_cases h3 : j < i ∨ orig.length ≤ j + i
      · rw [if_pos h3, if_pos (by omega)]
      · rw [if_neg h3, if_neg (by omega)]
section
variable {A H : DH} {bs : List (Nat × DObj)} {fs : List (DH → Prop)} {K : DV → DH → Prop}
theorem opD_strAdd' {P : Program} {cf : CallF} {o : Oper} {env : List DV} {H : DH} {t u : TypeId} {x y : Operand} {a b : List UInt8} (ho : o.op = .binOp .add t x y u) (hx : evalO env x = some (.str a)) (hy : evalO env y = some (.str b)) (hl : a.length + b.length ≤ 4294967296) : opD P cf o env H = some (.str (a ++ b), H) := by
  simp only [opD, ho, mover, reader, pureD, hx, hy, binD, strOpD, hl, if_true]
  rfl
theorem dec59p {m0 : Nat} (hm : m0 < 1000000000000000000) (hB : Bx A H bs fs) (hK : ∀ H', Bx A H' bs fs → K (.str (decN m0)) H') : CallWp Tryd.prog X3 59 [.int .i64 (m0 : Int)] H K := by
  have hlen : (decN m0).length ≤ 18 := decN_len 17 m0 (by omega)
  have hneg : decide ((m0 : Int) < 0) = false := by simp
  refine enter rfl Tryd.func59 rfl Tryd.ntmps59 rfl ?_
  dsimp only [List.cons_append, List.nil_append, List.length_cons, List.length_nil, List.replicate_succ, List.replicate_zero, Nat.reduceAdd, Nat.reduceSub]
  repeat' (first
    | dsimp only [putD, DV.cells, DH.new_next, DH.set_next, List.length_cons, List.length_nil, Nat.reduceAdd, List.set_cons_zero, List.set_cons_succ, getD_zero, getD_succ, fieldAt_zero, fieldAt_succ, thenD, blockD, retR]
    | apply dwp_seq
    | apply dwp_region
    | apply ops_nil
    | (apply ops_plain; (· exact rfl))
    | (apply op_at; (· exact rfl))
    | (apply dwp_cond_f; (· exact rfl); (· (first | with_reducible assumption | with_reducible rfl | decide)))
    | apply dwp_block
    | apply dwp_skip
    | fail)
  refine dwp_loop (fun st => ∃ (s3 : Sv) (x3 : List (Nat × DObj)) (b : List UInt8) (H1 : DH) (m : Nat), ∃ J : Nat → DV, (Own1 1 (rowsB b) s3.dv x3 ∧ Bx A H1 (x3 ++ bs) fs ∧ m ≤ m0 ∧ decN m0 = decN m ++ b.reverse) ∧ st = ⟨(.int .i64 (m : Int) :: J 1 :: .str [] :: s3.dv :: .int .i64 (m : Int) :: J 5 :: J 6 :: J 7 :: J 8 :: J 9 :: J 10 :: J 11 :: J 12 :: J 13 :: J 14 :: J 15 :: J 16 :: J 17 :: J 18 :: J 19 :: J 20 :: J 21 :: J 22 :: J 23 :: J 24 :: J 25 :: J 26 :: J 27 :: J 28 :: J 29 :: J 30 :: J 31 :: J 32 :: J 33 :: J 34 :: J 35 :: J 36 :: J 37 :: J 38 :: J 39 :: J 40 :: J 41 :: J 42 :: J 43 :: J 44 :: J 45 :: J 46 :: J 47 :: J 48 :: J 49 :: J 50 :: J 51 :: J 52 :: J 53 :: J 54 :: J 55 :: J 56 :: J 57 :: J 58 :: []), H1⟩) (fun st => kOf st 4) (⟨⟨none, 0, 0, true⟩, [], [], _, m0, junk_facts (⟨.nil rfl, hB, Nat.le_refl _, by simp⟩) rfl rfl⟩) ?_
  rintro st ⟨s3, x3, b, H1, m, J, ⟨o3, hB, hmm, hdec⟩, rfl⟩
  have hbl : b.length ≤ 18 := by
    have := congrArg List.length hdec
    rw [List.length_append, List.length_reverse] at this
    omega
  have hl3 : (rowsB b).length + 1 ≤ mostD := by rw [rowsB_len]; unfold mostD; omega
  by_cases h9 : m < 10
  · have hc : decide ((m : Int) > 9) = false := by simp; omega
    have hu1 : IntKind.u8.wrap (m : Int) = (m : Int) := wrapB (by omega)
    have hu2 : IntKind.u8.wrap (48 + (m : Int)) = ((UInt8.ofNat (48 + m)).toNat : Int) := by rw [(ofNat_dig h9).1, wrapB (by omega)]; omega
    have hrows : rowsB (b ++ [UInt8.ofNat (48 + m)]) = rowsB b ++ [[.int .u8 ((UInt8.ofNat (48 + m)).toNat : Int)]] := by simp [rowsB]
    obtain ⟨orig, horig⟩ : ∃ o, b ++ [UInt8.ofNat (48 + m)] = o := ⟨_, rfl⟩
    rw [horig] at hrows
    have hrev : orig.reverse = decN m0 := by rw [hdec, decN_lt h9, ← horig]; simp
    have ho1 : 0 < orig.length := by rw [← horig]; simp
    have ho2 : orig.length ≤ 19 := by rw [← horig]; simp; omega
    have hone : rowsB orig ≠ [] := by intro h; have := congrArg List.length h; rw [rowsB_len, List.length_nil] at this; omega
    repeat' (first
      | dsimp only [putD, DV.cells, DH.new_next, DH.set_next, List.length_cons, List.length_nil, Nat.reduceAdd, List.set_cons_zero, List.set_cons_succ, getD_zero, getD_succ, fieldAt_zero, fieldAt_succ, thenD, blockD, retR]
      | apply dwp_seq
      | apply dwp_region
      | apply ops_nil
      | (apply ops_plain; (· exact rfl))
      | (apply op_told; (· exact rfl); (· exact congrArg (DV.int _) hu1))
      | (apply op_told; (· exact rfl); (· exact congrArg (DV.int _) hu2))
      | (apply bx_build1 et68; (· exact rfl); (· exact rfl); (· exact rfl); (· exact rfl); (· exact rfl); (· decide); (· assumption); intro bn H1 hB)
      | (apply op_append_s; (· exact rfl); (· exact rfl); (· exact rfl); (· exact rfl); (· exact et68); (· exact o3); (· assumption); (· (repeat (first | with_reducible exact Ctx.here | with_reducible apply Ctx.cons | with_reducible apply Ctx.app))); (· exact At.here); (· exact rfl); (· exact rfl); (· assumption); intro t3 y3 H1 q3 hB; replace q3 : Own1 1 (rowsB orig) t3.dv y3 := (by { rw [hrows]; exact q3 }); obtain ⟨bq, cq, eq, rs, e1, e2, htk, hrl, e3⟩ := own_box q3 hone; subst e1 e2 e3; rw [rowsB_len] at htk hrl; have hl1 : IntKind.i64.wrap ((((rowsB orig).length : Nat) : Int) - 1) = ((orig.length - 1 - 0 : Nat) : Int) := by { rw [rowsB_len, wrapI (by omega)]; omega }; dsimp only [List.cons_append, List.nil_append] at hB)
      | (apply op_told; (· exact rfl); (· exact congrArg (DV.int _) hl1))
      | (apply op_at; (· exact rfl))
      | (apply dwp_cond_f; (· exact rfl); (· (first | with_reducible assumption | with_reducible rfl | decide)))
      | apply dwp_block
      | apply dwp_exit
      | fail)
    refine dwp_loop (fun st => ∃ (H1 : DH) (rt : List (List DV)) (cur : List UInt8) (i : Nat), ∃ J : Nat → DV, (Bx A H1 ((bq, .rows false 1 rt) :: bs) fs ∧ rt.take orig.length = rowsB cur ∧ rt.length = rs.length ∧ cur.length = orig.length ∧ 2 * i ≤ orig.length ∧ ∀ j, j < orig.length → cur[j]? = if j < i ∨ orig.length ≤ j + i then orig[orig.length - 1 - j]? else orig[j]?) ∧ st = ⟨(.int .i64 (m : Int) :: J 1 :: .str [] :: .sl (some (bq, 0, 1)) (rowsB orig).length rs.length eq :: J 4 :: .int .i64 (i : Int) :: .int .i64 ((orig.length - 1 - i : Nat) : Int) :: J 7 :: J 8 :: J 9 :: J 10 :: J 11 :: J 12 :: J 13 :: J 14 :: J 15 :: J 16 :: J 17 :: J 18 :: J 19 :: J 20 :: J 21 :: J 22 :: J 23 :: J 24 :: J 25 :: J 26 :: J 27 :: J 28 :: J 29 :: J 30 :: J 31 :: J 32 :: J 33 :: J 34 :: J 35 :: J 36 :: J 37 :: J 38 :: J 39 :: J 40 :: J 41 :: J 42 :: J 43 :: J 44 :: J 45 :: J 46 :: J 47 :: J 48 :: J 49 :: J 50 :: J 51 :: J 52 :: J 53 :: J 54 :: J 55 :: J 56 :: J 57 :: J 58 :: []), H1⟩) (fun st => orig.length - kOf st 5) (⟨_, rs, orig, 0, junk_facts (⟨(hB.sub (by (repeat (first | exact List.Sublist.refl _ | exact List.nil_sublist _ | apply List.Sublist.cons_cons | apply List.Sublist.cons | apply List.Sublist.append_left | refine List.Sublist.trans ?_ (List.sublist_append_right _ _))))), htk, rfl, rfl, Nat.zero_le _, fun j hj => by rw [if_neg (by omega)]⟩) rfl rfl⟩) ?_
    rintro st ⟨H1, rt, cur, i, J, ⟨hB, htk, hrt, hcl, hi2, hcur⟩, rfl⟩
    have hii : i ≤ orig.length - 1 := by omega
    by_cases hlt : i < orig.length - 1 - i
    · have hc2 : decide ((i : Int) < ((orig.length - 1 - i : Nat) : Int)) = true := by simp; omega
      have hk : orig.length - 1 - i < orig.length := by omega
      obtain ⟨x, hx⟩ : ∃ x, cur[i]? = some x := ⟨cur[i]'(by omega), List.getElem?_eq_getElem _⟩
      obtain ⟨y, hy⟩ : ∃ y, cur[orig.length - 1 - i]? = some y := ⟨cur[orig.length - 1 - i]'(by omega), List.getElem?_eq_getElem _⟩
      obtain ⟨g1, g2⟩ := rev_step hcl hcur hlt hx hy
      have hge : ∀ (j : Nat) (v : UInt8), j < orig.length → cur[j]? = some v → rt[0 + ((j : Nat) : Int).toNat]? = some [DV.int .u8 v.toNat] := by
        intro j v hj hv
        have h1 : (rowsB cur)[j]? = some [DV.int .u8 v.toNat] := by rw [rowsB_get, hv]; rfl
        rw [← htk, List.getElem?_take, if_pos hj] at h1
        rw [Nat.zero_add, Int.toNat_natCast]
        exact h1
      have hr1 := hge _ _ (by omega) hx
      have hr2 := hge _ _ hk hy
      have hin1 : 0 ≤ (i : Int) ∧ (i : Int) < (((rowsB orig).length : Nat) : Int) := by rw [rowsB_len]; omega
      have hin2 : 0 ≤ ((orig.length - 1 - i : Nat) : Int) ∧ ((orig.length - 1 - i : Nat) : Int) < (((rowsB orig).length : Nat) : Int) := by rw [rowsB_len]; omega
      obtain ⟨rt1, ht1⟩ : ∃ r, rt.set (0 + ((i : Nat) : Int).toNat) [DV.int .u8 y.toNat] = r := ⟨_, rfl⟩
      obtain ⟨rt2, ht2⟩ : ∃ r, rt1.set (0 + ((orig.length - 1 - i : Nat) : Int).toNat) [DV.int .u8 x.toNat] = r := ⟨_, rfl⟩
      have hs1 : setRow rt (0 + ((i : Nat) : Int).toNat) 0 (DV.cells (.int .u8 y.toNat)) = some rt1 := by rw [← ht1]; exact setRow1 hr1 rfl rfl
      have hr2' : rt1[0 + ((orig.length - 1 - i : Nat) : Int).toNat]? = some [DV.int .u8 y.toNat] := by
        rw [← ht1, List.getElem?_set]
        rw [if_neg (by omega)]
        exact hr2
      have hs2 : setRow rt1 (0 + ((orig.length - 1 - i : Nat) : Int).toNat) 0 (DV.cells (.int .u8 x.toNat)) = some rt2 := by rw [← ht2]; exact setRow1 hr2' rfl rfl
      have htk2 : rt2.take orig.length = rowsB ((cur.set i y).set (orig.length - 1 - i) x) := by
        rw [← ht2, ← ht1, rowsB_set, rowsB_set, ← htk, Nat.zero_add, Nat.zero_add, Int.toNat_natCast, Int.toNat_natCast, List.take_set, List.take_set]
      have hrt2 : rt2.length = rs.length := by rw [← ht2, ← ht1, List.length_set, List.length_set, hrt]
      have hw1 : IntKind.i64.wrap ((i : Int) + 1) = ((i + 1 : Nat) : Int) := by rw [wrapI (by omega)]; omega
      have hw2 : IntKind.i64.wrap (((orig.length - 1 - i : Nat) : Int) - 1) = ((orig.length - 1 - (i + 1) : Nat) : Int) := by rw [wrapI (by omega)]; omega
      repeat' (first
        | dsimp only [putD, DV.cells, DH.new_next, DH.set_next, List.length_cons, List.length_nil, Nat.reduceAdd, List.set_cons_zero, List.set_cons_succ, getD_zero, getD_succ, fieldAt_zero, fieldAt_succ, thenD, blockD, retR]
        | refine dwp_drawr _ rfl (fun H' => Bx A H' ((bq, .rows false 1 rt) :: bs) fs) hB ?_
        | (apply drawr_pure; (· (first | exact wanted_plain rfl | (apply wanted_on; (· exact rfl); (· exact rfl); (· (first | with_reducible assumption | with_reducible rfl | decide))))); (· exact rfl); (· exact rfl); (· exact opD_index rfl rfl rfl rfl rfl hin1))
        | (apply drawr_pure; (· (first | exact wanted_plain rfl | (apply wanted_on; (· exact rfl); (· exact rfl); (· (first | with_reducible assumption | with_reducible rfl | decide))))); (· exact rfl); (· exact rfl); (· exact opD_index rfl rfl rfl rfl rfl hin2))
        | (apply draws_pure; (· (first | exact wanted_plain rfl | (apply wanted_on; (· exact rfl); (· exact rfl); (· (first | with_reducible assumption | with_reducible rfl | decide))))); (· exact rfl); (· exact rfl); (· exact opD_index rfl rfl rfl rfl rfl hin2))
        | (apply drawr_read; (· (first | exact wanted_plain rfl | (apply wanted_on; (· exact rfl); (· exact rfl); (· (first | with_reducible assumption | with_reducible rfl | decide))))); (· exact rfl); (· exact rfl); (· intro H' h; have h : Bx _ H' _ _ := h; exact opD_load rfl rfl (h.get At.here) hr1 rfl))
        | (apply drawr_read; (· (first | exact wanted_plain rfl | (apply wanted_on; (· exact rfl); (· exact rfl); (· (first | with_reducible assumption | with_reducible rfl | decide))))); (· exact rfl); (· exact rfl); (· intro H' h; have h : Bx _ H' _ _ := h; exact opD_load rfl rfl (h.get At.here) hr2 rfl))
        | (apply drawr_pure; (· (first | exact wanted_plain rfl | (apply wanted_on; (· exact rfl); (· exact rfl); (· (first | with_reducible assumption | with_reducible rfl | decide))))); (· exact rfl); (· exact rfl); (· exact rfl))
        | (apply drawr_sync_st; (· exact rfl); (· (first | exact wanted_plain rfl | (apply wanted_on; (· exact rfl); (· exact rfl); (· (first | with_reducible assumption | with_reducible rfl | decide))))); (· decide +kernel))
        | apply draws_nil
        | (apply draws_move; (· (first | exact wanted_plain rfl | (apply wanted_on; (· exact rfl); (· exact rfl); (· (first | with_reducible assumption | with_reducible rfl | decide))))); (· exact rfl); (· decide +kernel))
        | apply dwp_seq
        | apply dwp_region
        | apply ops_nil
        | (apply ops_plain; (· exact rfl))
        | (apply bx_store; (· exact rfl); (· exact rfl); (· exact rfl); (· assumption); (· exact Upd.here); (· exact hs1); (· exact rfl); (· exact rfl); intro H1 hB)
        | (apply bx_store; (· exact rfl); (· exact rfl); (· exact rfl); (· assumption); (· exact Upd.here); (· exact hs2); (· exact rfl); (· exact rfl); intro H1 hB)
        | (apply op_told; (· exact rfl); (· exact congrArg (DV.int _) hw1))
        | (apply op_told; (· exact rfl); (· exact congrArg (DV.int _) hw2))
        | (apply op_at; (· exact rfl))
        | (apply dwp_cond_t; (· exact rfl); (· (first | with_reducible assumption | with_reducible rfl | decide)))
        | apply dwp_block
        | apply dwp_skip
        | fail)
      refine ⟨⟨_, rt2, (cur.set i y).set (orig.length - 1 - i) x, i + 1, junk_facts ⟨hB, htk2, hrt2, g1, by omega, g2⟩ rfl rfl⟩, ?_⟩
      show orig.length - ((i + 1 : Nat) : Int).toNat < orig.length - (i : Int).toNat
      omega
    · have hc2 : decide ((i : Int) < ((orig.length - 1 - i : Nat) : Int)) = false := by simp; omega
      have hdone := rev_done hcl hcur (by omega)
      rw [hrev] at hdone
      have o4 : Own1 1 (rowsB cur) (.sl (some (bq, 0, 1)) (rowsB cur).length rs.length eq) [(bq, .rows false 1 rt)] := .at hrt.symm (by rw [rowsB_len, hcl]; exact hrl) (by rw [rowsB_len, hcl]; exact htk)
      have hlr : (rowsB orig).length = (rowsB cur).length := by rw [rowsB_len, rowsB_len, hcl]
      rw [hlr]
      have hB : Bx A H1 ([(bq, .rows false 1 rt)] ++ bs) fs := hB
      repeat' (first
        | dsimp only [putD, DV.cells, DH.new_next, DH.set_next, List.length_cons, List.length_nil, Nat.reduceAdd, List.set_cons_zero, List.set_cons_succ, getD_zero, getD_succ, fieldAt_zero, fieldAt_succ, thenD, blockD, retR]
        | apply dwp_seq
        | apply dwp_region
        | apply ops_nil
        | (apply ops_plain; (· exact rfl))
        | (apply op_str_own; (· exact rfl); (· exact rfl); (· exact rfl); (· exact rfl); (· exact rfl); (· exact o4); (· assumption); (· exact Ctx.here))
        | (apply op_at; (· exact rfl))
        | (apply dwp_cond_f; (· exact rfl); (· (first | with_reducible assumption | with_reducible rfl | decide)))
        | apply dwp_ret
        | apply dwp_exit
        | (refine ⟨_, rfl, ?_⟩)
        | fail)
      rw [hdone]
      exact hK _ hB.drop1
  · have hc : decide ((m : Int) > 9) = true := by simp; omega
    have hm10 : m % 10 < 10 := Nat.mod_lt _ (by decide)
    have hrem : (m : Int).tmod 10 = ((m % 10 : Nat) : Int) := by rw [Int.tmod_eq_emod_of_nonneg (by omega)]; omega
    have hquo : IntKind.i64.wrap ((m : Int).tdiv 10) = ((m / 10 : Nat) : Int) := by rw [Int.tdiv_eq_ediv_of_nonneg (by omega), wrapI (by omega)]; omega
    have hu1 : IntKind.u8.wrap ((m % 10 : Nat) : Int) = ((m % 10 : Nat) : Int) := wrapB (by omega)
    have hu2 : IntKind.u8.wrap (48 + ((m % 10 : Nat) : Int)) = ((UInt8.ofNat (48 + m % 10)).toNat : Int) := by rw [(ofNat_dig hm10).1, wrapB (by omega)]; omega
    have hrows : rowsB (b ++ [UInt8.ofNat (48 + m % 10)]) = rowsB b ++ [[.int .u8 ((UInt8.ofNat (48 + m % 10)).toNat : Int)]] := by simp [rowsB]
    repeat' (first
      | dsimp only [putD, DV.cells, DH.new_next, DH.set_next, List.length_cons, List.length_nil, Nat.reduceAdd, List.set_cons_zero, List.set_cons_succ, getD_zero, getD_succ, fieldAt_zero, fieldAt_succ, thenD, blockD, retR]
      | apply dwp_seq
      | apply dwp_region
      | apply ops_nil
      | (apply ops_plain; (· exact rfl))
      | (apply op_at; (· exact opD_rem rfl rfl rfl (by decide) hrem))
      | (apply op_at; (· exact opD_quo rfl rfl rfl (by decide) hquo))
      | (apply op_told; (· exact rfl); (· exact congrArg (DV.int _) hu1))
      | (apply op_told; (· exact rfl); (· exact congrArg (DV.int _) hu2))
      | (apply bx_build1 et68; (· exact rfl); (· exact rfl); (· exact rfl); (· exact rfl); (· exact rfl); (· decide); (· assumption); intro bn H1 hB)
      | (apply op_append_s; (· exact rfl); (· exact rfl); (· exact rfl); (· exact rfl); (· exact et68); (· exact o3); (· assumption); (· (repeat (first | with_reducible exact Ctx.here | with_reducible apply Ctx.cons | with_reducible apply Ctx.app))); (· exact At.here); (· exact rfl); (· exact rfl); (· assumption); intro t3 y3 H1 q3 hB)
      | (apply op_at; (· exact rfl))
      | (apply dwp_cond_t; (· exact rfl); (· (first | with_reducible assumption | with_reducible rfl | decide)))
      | apply dwp_block
      | apply dwp_skip
      | fail)
    refine ⟨⟨t3, y3, b ++ [UInt8.ofNat (48 + m % 10)], _, m / 10, junk_facts ⟨by rw [hrows]; exact q3, (hB.sub (by (repeat (first | exact List.Sublist.refl _ | exact List.nil_sublist _ | apply List.Sublist.cons_cons | apply List.Sublist.cons | apply List.Sublist.append_left | refine List.Sublist.trans ?_ (List.sublist_append_right _ _))))), by omega, by rw [hdec, decN_ge h9]; simp⟩ rfl rfl⟩, ?_⟩
    show ((m / 10 : Nat) : Int).toNat < (m : Int).toNat
    omega
theorem dec59 {n : Int} (hn : -1000000000000000000 < n ∧ n < 1000000000000000000) (hB : Bx A H bs fs) (hK : ∀ H', Bx A H' bs fs → K (.str (decF n)) H') : CallWp Tryd.prog X3 59 [.int .i64 n] H K := by
  unfold decF at hK
  by_cases h0 : n < 0
  · rw [if_pos h0] at hK
    have hc : decide (n < 0) = true := by simpa using h0
    have hneg : IntKind.i64.wrap (0 - n) = (n.natAbs : Int) := by rw [wrapI (by omega)]; omega
    have hm : n.natAbs < 1000000000000000000 := by omega
    have hl : 1 + (decN n.natAbs).length ≤ 4294967296 := by have := decN_len 17 n.natAbs (by omega); omega
    refine enter rfl Tryd.func59 rfl Tryd.ntmps59 rfl ?_
    dsimp only [List.cons_append, List.nil_append, List.length_cons, List.length_nil, List.replicate_succ, List.replicate_zero, Nat.reduceAdd, Nat.reduceSub]
    repeat' (first
      | dsimp only [putD, DV.cells, DH.new_next, DH.set_next, List.length_cons, List.length_nil, Nat.reduceAdd, List.set_cons_zero, List.set_cons_succ, getD_zero, getD_succ, fieldAt_zero, fieldAt_succ, thenD, blockD, retR]
      | apply dwp_seq
      | apply dwp_region
      | apply ops_nil
      | (apply ops_plain; (· exact rfl))
      | (apply op_call; (· exact rfl); (· exact rfl); (· exact rfl); (apply dec59p (m0 := n.natAbs); (· exact hm); (· assumption); intro H1 hB))
      | (apply op_told; (· exact rfl); (· exact congrArg (DV.int _) hneg))
      | (apply op_at; (· exact opD_strAdd' rfl rfl rfl hl))
      | (apply op_at; (· exact rfl))
      | (apply dwp_cond_t; (· exact rfl); (· (first | with_reducible assumption | with_reducible rfl | decide)))
      | apply dwp_ret
      | (refine ⟨_, rfl, ?_⟩)
      | fail)
    exact hK _ hB
  · rw [if_neg h0] at hK
    have e : n = (n.natAbs : Int) := by omega
    rw [e]
    exact dec59p (m0 := n.natAbs) (by omega) hB hK
end
end Go.Det.C

/- Pieces are cut; numbers. -/
namespace Go.Det.C
open Go Go.Det Go.Proofs
set_option maxRecDepth 4000
set_option linter.unusedVariables false
set_option linter.unusedSimpArgs false
/-- A piece's rune. -/
def pieceB (c : UInt8) : Prop := (isLet (c.toNat : Int) = true ∨ isDgt (c.toNat : Int) = true)
/-- A piece: letters and digits, perhaps with a - ahead. -/
def Piece (w : List UInt8) : Prop := ∃ b v, w = (if b = true then 45 :: v else v) ∧ (∀ x ∈ v, pieceB x) ∧ w ≠ []
/-! ### numbers -/
theorem unitF_head {u : List UInt8} {ps : Int} (h : unitF u = some ps) : u ≠ [] ∧ (∀ c t, u = c :: t → isDig c = false) ∧ (∀ x ∈ u, pieceB x) ∧ u.length ≤ 2 := by
  unfold unitF at h
  have key : u = [115] ∨ u = [109, 115] ∨ u = [117, 115] ∨ u = [110, 115] ∨ u = [112, 115] := by
    (repeat' split at h) <;> simp_all
  rcases key with rfl | rfl | rfl | rfl | rfl
  all_goals refine ⟨by simp, fun c t h => ?_, fun x hx => ?_, by simp⟩
  all_goals first
    | (cases h; rfl)
    | (simp only [List.mem_cons, List.not_mem_nil, or_false] at hx; left; rcases hx with rfl | rfl <;> rfl)
    | (simp only [List.mem_cons, List.not_mem_nil, or_false] at hx; left; rcases hx with rfl; rfl)
end Go.Det.C

/- few; the reference's Same. -/
namespace Go.Det.C
open Go Go.Det Go.Proofs
set_option maxRecDepth 4000
set_option maxHeartbeats 4000000
set_option linter.unusedVariables false
set_option linter.unusedSimpArgs false
def few (n : Nat) : Bool := decide (n ≤ 3000) || (decide (65536 < n) && decide (n < 131072))
theorem few23 (s : List UInt8) (H : DH) : CallWp Tryd.prog X3 23 [.str s, .sl none 0 0 true] H (fun r H' => r = .bool (few s.length) ∧ H' = H) := by
  unfold few
  cases h1 : decide ((s.length : Int) ≤ 3000) with
  | true =>
    have e1 : decide (s.length ≤ 3000) = true := by simp at h1 ⊢; omega
    refine enter rfl Tryd.func23 rfl Tryd.ntmps23 rfl ?_
    dsimp only [List.cons_append, List.nil_append, List.length_cons, List.length_nil, List.replicate_succ, List.replicate_zero, Nat.reduceAdd, Nat.reduceSub]
    repeat' (first
      | dsimp only [putD, DV.cells, DH.new_next, DH.set_next, List.length_cons, List.length_nil, Nat.reduceAdd, List.set_cons_zero, List.set_cons_succ, getD_zero, getD_succ, fieldAt_zero, fieldAt_succ, thenD, blockD, retR]
      | refine dwp_round ?_
      | apply dwp_seq
      | apply dwp_region
      | apply ops_nil
      | (apply ops_plain; (· exact rfl))
      | (apply ops_on; (· exact rfl); (· exact rfl); (· (first | with_reducible assumption | with_reducible rfl | decide)))
      | (apply ops_off0; (· exact rfl); (· exact rfl); (· (first | with_reducible assumption | with_reducible rfl | decide)))
      | (apply ops_offn; (· exact rfl); (· exact rfl))
      | (apply op_pick_t; (· exact rfl); (· exact rfl); (· (first | with_reducible assumption | with_reducible rfl | decide)); (· exact rfl))
      | (apply op_at; (· exact rfl))
      | (apply dwp_cond_f; (· exact rfl); (· (first | with_reducible assumption | with_reducible rfl | decide)))
      | apply dwp_block
      | apply dwp_ret
      | apply dwp_exit
      | (refine ⟨_, rfl, ?_⟩)
      | fail)
    rw [e1]; exact ⟨rfl, rfl⟩
  | false =>
    have e1 : decide (s.length ≤ 3000) = false := by simp at h1 ⊢; omega
    cases h2 : decide ((s.length : Int) > 65536) with
    | true =>
      have e2 : decide (65536 < s.length) = true := by simp at h2 ⊢; omega
      cases h3 : decide ((s.length : Int) < 131072) with
      | true =>
        have e3 : decide (s.length < 131072) = true := by simp at h3 ⊢; omega
        refine enter rfl Tryd.func23 rfl Tryd.ntmps23 rfl ?_
        dsimp only [List.cons_append, List.nil_append, List.length_cons, List.length_nil, List.replicate_succ, List.replicate_zero, Nat.reduceAdd, Nat.reduceSub]
        repeat' (first
          | dsimp only [putD, DV.cells, DH.new_next, DH.set_next, List.length_cons, List.length_nil, Nat.reduceAdd, List.set_cons_zero, List.set_cons_succ, getD_zero, getD_succ, fieldAt_zero, fieldAt_succ, thenD, blockD, retR]
          | refine dwp_round ?_
          | apply dwp_seq
          | apply dwp_region
          | apply ops_nil
          | (apply ops_plain; (· exact rfl))
          | (apply ops_on; (· exact rfl); (· exact rfl); (· (first | with_reducible assumption | with_reducible rfl | decide)))
          | (apply op_pick_t; (· exact rfl); (· exact rfl); (· (first | with_reducible assumption | with_reducible rfl | decide)); (· exact rfl))
          | (apply op_pick_f; (· exact rfl); (· exact rfl); (· (first | with_reducible assumption | with_reducible rfl | decide)); (· exact rfl))
          | (apply op_at; (· exact rfl))
          | (apply dwp_cond_f; (· exact rfl); (· (first | with_reducible assumption | with_reducible rfl | decide)))
          | apply dwp_block
          | apply dwp_ret
          | apply dwp_exit
          | (refine ⟨_, rfl, ?_⟩)
          | fail)
        rw [e1, e2, e3]; exact ⟨rfl, rfl⟩
      | false =>
        have e3 : decide (s.length < 131072) = false := by simp at h3 ⊢; omega
        refine enter rfl Tryd.func23 rfl Tryd.ntmps23 rfl ?_
        dsimp only [List.cons_append, List.nil_append, List.length_cons, List.length_nil, List.replicate_succ, List.replicate_zero, Nat.reduceAdd, Nat.reduceSub]
        repeat' (first
          | dsimp only [putD, DV.cells, DH.new_next, DH.set_next, List.length_cons, List.length_nil, Nat.reduceAdd, List.set_cons_zero, List.set_cons_succ, getD_zero, getD_succ, fieldAt_zero, fieldAt_succ, thenD, blockD, retR]
          | refine dwp_round ?_
          | apply dwp_seq
          | apply dwp_region
          | apply ops_nil
          | (apply ops_plain; (· exact rfl))
          | (apply ops_on; (· exact rfl); (· exact rfl); (· (first | with_reducible assumption | with_reducible rfl | decide)))
          | (apply ops_off1; (· exact rfl); (· exact rfl); (· (first | with_reducible assumption | with_reducible rfl | decide)))
          | (apply op_pick_t; (· exact rfl); (· exact rfl); (· (first | with_reducible assumption | with_reducible rfl | decide)); (· exact rfl))
          | (apply op_pick_f; (· exact rfl); (· exact rfl); (· (first | with_reducible assumption | with_reducible rfl | decide)); (· exact rfl))
          | (apply op_at; (· exact rfl))
          | (apply dwp_cond_f; (· exact rfl); (· (first | with_reducible assumption | with_reducible rfl | decide)))
          | apply dwp_block
          | apply dwp_ret
          | apply dwp_exit
          | (refine ⟨_, rfl, ?_⟩)
          | fail)
        rw [e1, e2, e3]; exact ⟨rfl, rfl⟩
    | false =>
      have e2 : decide (65536 < s.length) = false := by simp at h2 ⊢; omega
      refine enter rfl Tryd.func23 rfl Tryd.ntmps23 rfl ?_
      dsimp only [List.cons_append, List.nil_append, List.length_cons, List.length_nil, List.replicate_succ, List.replicate_zero, Nat.reduceAdd, Nat.reduceSub]
      repeat' (first
        | dsimp only [putD, DV.cells, DH.new_next, DH.set_next, List.length_cons, List.length_nil, Nat.reduceAdd, List.set_cons_zero, List.set_cons_succ, getD_zero, getD_succ, fieldAt_zero, fieldAt_succ, thenD, blockD, retR]
        | refine dwp_round ?_
        | apply dwp_seq
        | apply dwp_region
        | apply ops_nil
        | (apply ops_plain; (· exact rfl))
        | (apply ops_on; (· exact rfl); (· exact rfl); (· (first | with_reducible assumption | with_reducible rfl | decide)))
        | (apply ops_off1; (· exact rfl); (· exact rfl); (· (first | with_reducible assumption | with_reducible rfl | decide)))
        | (apply op_pick_f; (· exact rfl); (· exact rfl); (· (first | with_reducible assumption | with_reducible rfl | decide)); (· exact rfl))
        | (apply op_at; (· exact rfl))
        | (apply dwp_cond_f; (· exact rfl); (· (first | with_reducible assumption | with_reducible rfl | decide)))
        | apply dwp_block
        | apply dwp_ret
        | apply dwp_exit
        | (refine ⟨_, rfl, ?_⟩)
        | fail)
      rw [e1, e2]; exact ⟨rfl, rfl⟩
end Go.Det.C

/- The reference's Same. -/
namespace Go.Det.C
open Go Go.Det Go.Proofs
set_option maxRecDepth 4000
set_option maxHeartbeats 4000000
set_option linter.unusedVariables false
set_option linter.unusedSimpArgs false
theorem eqTok (x y : Tok) : eqD Tryd.prog 57 (.agg x.row) (.agg y.row) = some (decide (x = y)) := by
  have h : eqD Tryd.prog 57 (.agg x.row) (.agg y.row) = andO (x.k == y.k) (andO (x.s == y.s) (andO (x.n == y.n) (andO (x.t == y.t) (some true)))) := by kernel_rfl
  rw [h]
  simp only [andO_some]
  refine congrArg some ?_
  rw [Bool.eq_iff_iff]
  cases x; cases y
  simp
theorem partTok (x : Tok) : partD Tryd.prog 57 x.row 0 = some (.agg x.row) := rfl
theorem same25 {H : DH} {p p' : Option (Nat × Nat × Nat)} {c c' : Nat} {ex ex' : Bool} {l m : List Tok} (hl : Sl H 4 (l.map Tok.row) p) (hm : Sl H 4 (m.map Tok.row) p') (hlen : l.length ≤ 1000000) :
    CallWp Tryd.prog X3 25 [.sl p l.length c ex, .sl p' m.length c' ex'] H (fun r H' => r = .bool (decide (l = m)) ∧ H' = H) := by
  by_cases hne : ((l.length : Int) != (m.length : Int)) = true
  · skip
    refine enter rfl Tryd.func25 rfl Tryd.ntmps25 rfl ?_
    dsimp only [List.cons_append, List.nil_append, List.length_cons, List.length_nil, List.replicate_succ, List.replicate_zero, Nat.reduceAdd, Nat.reduceSub]
    repeat' (first
      | dsimp only [putD, DV.cells, DH.new_next, DH.set_next, List.length_cons, List.length_nil, Nat.reduceAdd, List.set_cons_zero, List.set_cons_succ, getD_zero, getD_succ, fieldAt_zero, fieldAt_succ, thenD, blockD, retR]
      | apply dwp_seq
      | apply dwp_region
      | apply ops_nil
      | (apply ops_plain; (· exact rfl))
      | (apply op_at; (· exact rfl))
      | (apply dwp_cond_t; (· exact rfl); (· (first | with_reducible assumption | with_reducible rfl | decide)))
      | apply dwp_ret
      | (refine ⟨_, rfl, ?_⟩)
      | fail)
    refine ⟨?_, rfl⟩
    have : ¬ l = m := fun e => by subst e; simp at hne
    simp [this]
  · have hne' : ((l.length : Int) != (m.length : Int)) = false := by simpa using hne
    have hlm : l.length = m.length := by simp at hne'; omega
    refine enter rfl Tryd.func25 rfl Tryd.ntmps25 rfl ?_
    dsimp only [List.cons_append, List.nil_append, List.length_cons, List.length_nil, List.replicate_succ, List.replicate_zero, Nat.reduceAdd, Nat.reduceSub]
    repeat' (first
      | dsimp only [putD, DV.cells, DH.new_next, DH.set_next, List.length_cons, List.length_nil, Nat.reduceAdd, List.set_cons_zero, List.set_cons_succ, getD_zero, getD_succ, fieldAt_zero, fieldAt_succ, thenD, blockD, retR]
      | apply dwp_seq
      | apply dwp_region
      | apply ops_nil
      | (apply ops_plain; (· exact rfl))
      | (apply op_at; (· exact rfl))
      | (apply dwp_cond_f; (· exact rfl); (· (first | with_reducible assumption | with_reducible rfl | decide)))
      | apply dwp_block
      | apply dwp_skip
      | fail)
    refine dwp_loop (fun st => ∃ (k : Nat), ∃ J : Nat → DV, (k ≤ l.length ∧ ∀ i, i < k → l[i]? = m[i]?) ∧ st = ⟨[.sl p l.length c ex, .sl p' m.length c' ex', J 2, J 3, J 4, J 5, J 6, J 7, J 8, J 9, J 10, J 11, .int .i64 l.length, .int .i64 (k : Int), J 14, J 15, J 16, J 17, J 18, J 19, J 20, J 21, J 22, J 23, J 24, J 25], H⟩) (fun st => l.length - kOf st 13) (⟨0, junk_facts (⟨Nat.zero_le _, fun i h2 => absurd h2 (by omega)⟩) rfl rfl⟩) ?_
    rintro st ⟨k, J, ⟨hk, hbef⟩, rfl⟩
    by_cases hlt : k < l.length
    · obtain ⟨x, hx⟩ : ∃ x, l[k]? = some x := ⟨l[k], List.getElem?_eq_getElem hlt⟩
      obtain ⟨y, hy⟩ : ∃ y, m[k]? = some y := ⟨m[k]'(by omega), List.getElem?_eq_getElem _⟩
      obtain ⟨loc, i0, ro, rs, rfl, hloc, ho, hrx⟩ := hl.rd (k := k) (r := x.row) (by rw [List.getElem?_map, hx]; rfl)
      obtain ⟨loc', i0', ro', rs', rfl, hloc', ho', hry⟩ := hm.rd (k := k) (r := y.row) (by rw [List.getElem?_map, hy]; rfl)
      have hr1 : rs[i0 + ((k : Int)).toNat]? = some x.row := by rw [Int.toNat_natCast]; exact hrx
      have hr2 : rs'[i0' + ((k : Int)).toNat]? = some y.row := by rw [Int.toNat_natCast]; exact hry
      have hc : decide ((k : Int) < (l.length : Int)) = true := by simp [hlt]
      have hin1 : 0 ≤ (k : Int) ∧ (k : Int) < (l.length : Int) := by omega
      have hin2 : 0 ≤ (k : Int) ∧ (k : Int) < (m.length : Int) := by omega
      have hw : IntKind.i64.wrap ((k : Int) + 1) = ((k + 1 : Nat) : Int) := by rw [wrapI (by omega)]; rfl
      repeat' (first
        | dsimp only [putD, DV.cells, DH.new_next, DH.set_next, List.length_cons, List.length_nil, Nat.reduceAdd, List.set_cons_zero, List.set_cons_succ, getD_zero, getD_succ, fieldAt_zero, fieldAt_succ, thenD, blockD, retR]
        | (apply drawc_pure; (· (first | exact wanted_plain rfl | (apply wanted_on; (· exact rfl); (· exact rfl); (· (first | with_reducible assumption | with_reducible rfl | decide))))); (· exact rfl); (· exact rfl); (· exact opD_index rfl rfl rfl rfl rfl hin1))
        | (apply drawc_pure; (· (first | exact wanted_plain rfl | (apply wanted_on; (· exact rfl); (· exact rfl); (· (first | with_reducible assumption | with_reducible rfl | decide))))); (· exact rfl); (· exact rfl); (· exact opD_index rfl rfl rfl rfl rfl hin2))
        | (apply drawc_read_at; (· exact rfl); (· (first | exact wanted_plain rfl | (apply wanted_on; (· exact rfl); (· exact rfl); (· (first | with_reducible assumption | with_reducible rfl | decide))))); (· exact rfl); (· exact ho); (· with_reducible exact hr1); (· exact partTok x); (· decide +kernel))
        | (apply drawc_read_at; (· exact rfl); (· (first | exact wanted_plain rfl | (apply wanted_on; (· exact rfl); (· exact rfl); (· (first | with_reducible assumption | with_reducible rfl | decide))))); (· exact rfl); (· exact ho'); (· with_reducible exact hr2); (· exact partTok y); (· decide +kernel))
        | (apply drawc_pure; (· (first | exact wanted_plain rfl | (apply wanted_on; (· exact rfl); (· exact rfl); (· (first | with_reducible assumption | with_reducible rfl | decide))))); (· exact rfl); (· exact rfl); (· exact opD_neql rfl rfl rfl (eqTok x y)))
        | apply dwp_seq
        | apply dwp_region
        | apply ops_nil
        | (apply ops_plain; (· exact rfl))
        | (apply op_at; (· exact rfl))
        | refine dwp_drawc _ rfl ?_
        | apply drawc_nil
        | (apply drawc_pure; (· (first | exact wanted_plain rfl | (apply wanted_on; (· exact rfl); (· exact rfl); (· (first | with_reducible assumption | with_reducible rfl | decide))))); (· exact rfl); (· exact rfl); (· exact rfl))
        | (apply dwp_cond_t; (· exact rfl); (· (first | with_reducible assumption | with_reducible rfl | decide)))
        | (refine dwp_cond rfl ?_ ?_ <;> intro hb)
        | apply dwp_block
        | apply dwp_skip
        | apply dwp_ret
        | (refine ⟨_, rfl, ?_⟩)
        | fail)
      · refine ⟨?_, rfl⟩
        have hxy : ¬ x = y := by simpa using hb
        have : ¬ l = m := fun e => by subst e; rw [hx] at hy; cases hy; exact hxy rfl
        simp [this]
      · have hxy : x = y := by simpa using hb
        rw [hw]
        refine ⟨⟨k + 1, junk_facts (⟨by omega, fun i h2 => ?_⟩) rfl rfl⟩, ?_⟩
        · by_cases e : i = k
          · subst e; rw [hx, hy, hxy]
          · exact hbef i (by omega)
        · show l.length - ((k + 1 : Nat) : Int).toNat < l.length - (k : Int).toNat
          omega
    · have hc : decide ((k : Int) < (l.length : Int)) = false := by simp; omega
      repeat' (first
        | dsimp only [putD, DV.cells, DH.new_next, DH.set_next, List.length_cons, List.length_nil, Nat.reduceAdd, List.set_cons_zero, List.set_cons_succ, getD_zero, getD_succ, fieldAt_zero, fieldAt_succ, thenD, blockD, retR]
        | apply dwp_seq
        | apply dwp_region
        | apply ops_nil
        | (apply ops_plain; (· exact rfl))
        | (apply op_at; (· exact rfl))
        | (apply dwp_cond_f; (· exact rfl); (· (first | with_reducible assumption | with_reducible rfl | decide)))
        | apply dwp_ret
        | apply dwp_exit
        | (refine ⟨_, rfl, ?_⟩)
        | fail)
      refine ⟨?_, rfl⟩
      have : l = m := by
        apply List.ext_getElem?
        intro i
        by_cases hi : i < k
        · exact hbef i hi
        · rw [List.getElem?_eq_none (by omega), List.getElem?_eq_none (by omega)]
      simp [this]
end Go.Det.C

/- LexRemarks. -/
namespace Go.Det.C
open Go Go.Det Go.Proofs
set_option maxRecDepth 4000
set_option maxHeartbeats 4000000
set_option linter.unusedVariables false
set_option linter.unusedSimpArgs false
theorem opD_strAdd {P : Program} {cf : CallF} {o : Oper} {env : List DV} {H : DH} {t u : TypeId} {x y : Operand} {a b : List UInt8} (ho : o.op = .binOp .add t x y u) (hx : evalO env x = some (.str a)) (hy : evalO env y = some (.str b)) (hl : a.length + b.length ≤ 4294967296) : opD P cf o env H = some (.str (a ++ b), H) := by
  simp only [opD, ho, mover, reader, pureD, hx, hy, binD, strOpD, hl, if_true]
  rfl
section
variable {A H : DH} {bs : List (Nat × DObj)} {fs : List (DH → Prop)} {K : DV → DH → Prop}
theorem cut_err {s : List UInt8} (hs : s.length ≤ 65536) (he : (cutF s).e ≠ 0) (hB : Bx A H bs fs) (hk : ∀ H', Bx A H' bs fs → K (.tuple [.sl none 0 0 true, .sl none 0 0 true, .agg [.int .i64 (cutF s).w.1, .int .i64 (cutF s).w.2], .int .i64 (cutF s).e]) H') : CallWp Tryd.prog X3 24 [.str s] H K :=
  cut24 hs hB (fun _ => hk) (fun h => absurd h he)
theorem cut_ok {s : List UInt8} (hs : s.length ≤ 65536) (he : (cutF s).e = 0) (hB : Bx A H bs fs) (hk : ∀ (s1 s2 : Sv) x1 x2 H', Own1 4 ((cutF s).toks.map Tok.row) s1.dv x1 → Own1 2 ((cutF s).places.map placeRow) s2.dv x2 → Bx A H' (x1 ++ (x2 ++ bs)) fs → K (.tuple [s1.dv, s2.dv, .agg [.int .i64 0, .int .i64 0], .int .i64 0]) H') : CallWp Tryd.prog X3 24 [.str s] H K :=
  cut24 hs hB (fun h => absurd he h) (fun _ => hk)
end
/-- What the loop has seen is plain. -/
theorem plain_step {c : List UInt8} {pos cn w : Nat} (hne : c.drop pos ≠ []) (hd : decL (c.drop pos) = (cn, w)) (h1 : cn ≠ 10) (h2 : cn ≠ 65533) (h : Plain (c.drop (pos + w))) : Plain (c.drop pos) := by
  intro x hx
  rw [runes_cons hne, hd, List.drop_drop] at hx
  rcases List.mem_cons.mp hx with rfl | hx
  · refine ⟨?_, ?_⟩
    · unfold badL
      rw [hd]
      simp [h2]
    · simp only; omega
  · exact h x hx
theorem runes_len : ∀ (n : Nat) (l : List UInt8), l.length ≤ n → (runes l).length ≤ l.length := by
  intro n
  induction n with
  | zero => intro l hl; obtain rfl : l = [] := List.length_eq_zero_iff.mp (by omega); rw [runes_nil]; exact Nat.le_refl _
  | succ n ih =>
    intro l hl
    by_cases h : l = []
    · subst h; rw [runes_nil]; exact Nat.le_refl _
    · have hw := decL_width h
      have := ih (l.drop (decL l).2) (by rw [List.length_drop]; omega)
      rw [List.length_drop] at this
      rw [runes_cons h, List.length_cons]
      omega
theorem goR_len : ∀ (r : List (Int × Bool)) (c : Cu) (p : Int × Int), (goR r c p).toks.length ≤ c.toks.length + 3 * r.length + 1 := by
  intro r
  induction r with
  | nil => intro c p; have := (fin_len c).1; show c.fin.toks.length ≤ _; simp only [List.length_nil]; omega
  | cons x r ih =>
    intro c p
    have h := (step_len c p x).1
    rw [goR_cons, List.length_cons]
    split
    · have := ih (stepR c p x) (nextP p x.1); omega
    · omega
theorem plain_nil : Plain [] := by intro x hx; rw [runes_nil] at hx; cases hx
theorem remarks6 (s c : List UInt8) (pad : Int) (hpad : 0 ≤ pad ∧ pad ≤ 255) {A H : DH} (hB : Bx A H [] []) : CallWp Tryd.prog X3 6 [.str s, .str c, .int .u8 pad] H (fun r _ => r = .bool true) := by
  cases hfs : few s.length with
  | false =>
    refine enter rfl Tryd.func6 rfl Tryd.ntmps6 rfl ?_
    dsimp only [List.cons_append, List.nil_append, List.length_cons, List.length_nil, List.replicate_succ, List.replicate_zero, Nat.reduceAdd, Nat.reduceSub]
    repeat' (first
      | dsimp only [putD, DV.cells, DH.new_next, DH.set_next, List.length_cons, List.length_nil, Nat.reduceAdd, List.set_cons_zero, List.set_cons_succ, getD_zero, getD_succ, fieldAt_zero, fieldAt_succ, thenD, blockD, retR]
      | apply dwp_seq
      | apply dwp_region
      | apply ops_nil
      | (apply ops_plain; (· exact rfl))
      | (apply ops_off0; (· exact rfl); (· exact rfl); (· (first | with_reducible assumption | with_reducible rfl | decide)))
      | (apply op_call; (· exact rfl); (· exact rfl); (· exact rfl); refine call_table (g := gLive) rfl rfl ?_)
      | (apply op_call; (· exact rfl); (· exact rfl); (· exact rfl); (refine (few23 _ _).mono ?_; rintro r0 H' ⟨rfl, rfl⟩; (first | rw [hfs] | rw [hfc])))
      | (apply op_pick_t; (· exact rfl); (· exact rfl); (· (first | with_reducible assumption | with_reducible rfl | decide)); (· exact rfl))
      | (apply op_at; (· exact rfl))
      | (apply dwp_cond_t; (· exact rfl); (· (first | with_reducible assumption | with_reducible rfl | decide)))
      | apply dwp_ret
      | (refine ⟨_, rfl, ?_⟩)
      | fail)
  | true =>
    cases hfc : few c.length with
    | false =>
      refine enter rfl Tryd.func6 rfl Tryd.ntmps6 rfl ?_
      dsimp only [List.cons_append, List.nil_append, List.length_cons, List.length_nil, List.replicate_succ, List.replicate_zero, Nat.reduceAdd, Nat.reduceSub]
      repeat' (first
        | dsimp only [putD, DV.cells, DH.new_next, DH.set_next, List.length_cons, List.length_nil, Nat.reduceAdd, List.set_cons_zero, List.set_cons_succ, getD_zero, getD_succ, fieldAt_zero, fieldAt_succ, thenD, blockD, retR]
        | apply dwp_seq
        | apply dwp_region
        | apply ops_nil
        | (apply ops_plain; (· exact rfl))
        | (apply ops_on; (· exact rfl); (· exact rfl); (· (first | with_reducible assumption | with_reducible rfl | decide)))
        | (apply ops_off0; (· exact rfl); (· exact rfl); (· (first | with_reducible assumption | with_reducible rfl | decide)))
        | (apply op_call; (· exact rfl); (· exact rfl); (· exact rfl); refine call_table (g := gLive) rfl rfl ?_)
        | (apply op_call; (· exact rfl); (· exact rfl); (· exact rfl); (refine (few23 _ _).mono ?_; rintro r0 H' ⟨rfl, rfl⟩; (first | rw [hfs] | rw [hfc])))
        | (apply op_pick_t; (· exact rfl); (· exact rfl); (· (first | with_reducible assumption | with_reducible rfl | decide)); (· exact rfl))
        | (apply op_pick_f; (· exact rfl); (· exact rfl); (· (first | with_reducible assumption | with_reducible rfl | decide)); (· exact rfl))
        | (apply op_at; (· exact rfl))
        | (apply dwp_cond_t; (· exact rfl); (· (first | with_reducible assumption | with_reducible rfl | decide)))
        | apply dwp_ret
        | (refine ⟨_, rfl, ?_⟩)
        | fail)
    | true =>
      have hls : s.length < 131072 := by unfold few at hfs; simp at hfs; omega
      have hlc : c.length < 131072 := by unfold few at hfc; simp at hfc; omega
      have hsum : IntKind.i64.wrap ((s.length : Int) + (c.length : Int)) = ((s.length + c.length : Nat) : Int) := by
        rw [wrapI (by omega)]; omega
      cases hbig : decide (((s.length + c.length : Nat) : Int) > 3000) with
      | true =>
        refine enter rfl Tryd.func6 rfl Tryd.ntmps6 rfl ?_
        dsimp only [List.cons_append, List.nil_append, List.length_cons, List.length_nil, List.replicate_succ, List.replicate_zero, Nat.reduceAdd, Nat.reduceSub]
        repeat' (first
          | dsimp only [putD, DV.cells, DH.new_next, DH.set_next, List.length_cons, List.length_nil, Nat.reduceAdd, List.set_cons_zero, List.set_cons_succ, getD_zero, getD_succ, fieldAt_zero, fieldAt_succ, thenD, blockD, retR]
          | apply dwp_seq
          | apply dwp_region
          | apply ops_nil
          | (apply ops_plain; (· exact rfl))
          | (apply ops_on; (· exact rfl); (· exact rfl); (· (first | with_reducible assumption | with_reducible rfl | decide)))
          | (apply op_call; (· exact rfl); (· exact rfl); (· exact rfl); refine call_table (g := gLive) rfl rfl ?_)
          | (apply op_call; (· exact rfl); (· exact rfl); (· exact rfl); (refine (few23 _ _).mono ?_; rintro r0 H' ⟨rfl, rfl⟩; (first | rw [hfs] | rw [hfc])))
          | (apply op_pick_f; (· exact rfl); (· exact rfl); (· (first | with_reducible assumption | with_reducible rfl | decide)); (· exact rfl))
          | (apply op_told; (· exact rfl); (· exact congrArg (DV.int _) hsum))
          | (apply op_at; (· exact rfl))
          | (apply dwp_cond_t; (· exact rfl); (· (first | with_reducible assumption | with_reducible rfl | decide)))
          | apply dwp_ret
          | (refine ⟨_, rfl, ?_⟩)
          | fail)
      | false =>
        have hsm : s.length + c.length ≤ 3000 := by simp at hbig; omega
        refine enter rfl Tryd.func6 rfl Tryd.ntmps6 rfl ?_
        dsimp only [List.cons_append, List.nil_append, List.length_cons, List.length_nil, List.replicate_succ, List.replicate_zero, Nat.reduceAdd, Nat.reduceSub]
        repeat' (first
          | dsimp only [putD, DV.cells, DH.new_next, DH.set_next, List.length_cons, List.length_nil, Nat.reduceAdd, List.set_cons_zero, List.set_cons_succ, getD_zero, getD_succ, fieldAt_zero, fieldAt_succ, thenD, blockD, retR]
          | apply dwp_seq
          | apply dwp_region
          | apply ops_nil
          | (apply ops_plain; (· exact rfl))
          | (apply ops_on; (· exact rfl); (· exact rfl); (· (first | with_reducible assumption | with_reducible rfl | decide)))
          | (apply op_call; (· exact rfl); (· exact rfl); (· exact rfl); refine call_table (g := gLive) rfl rfl ?_)
          | (apply op_call; (· exact rfl); (· exact rfl); (· exact rfl); (refine (few23 _ _).mono ?_; rintro r0 H' ⟨rfl, rfl⟩; (first | rw [hfs] | rw [hfc])))
          | (apply op_pick_f; (· exact rfl); (· exact rfl); (· (first | with_reducible assumption | with_reducible rfl | decide)); (· exact rfl))
          | (apply op_told; (· exact rfl); (· exact congrArg (DV.int _) hsum))
          | (apply bx_range; (· exact rfl); (· exact rfl); (· exact rfl); (· assumption); intro bi H1 hB)
          | (apply op_at; (· exact rfl))
          | (apply dwp_cond_f; (· exact rfl); (· (first | with_reducible assumption | with_reducible rfl | decide)))
          | apply dwp_block
          | apply dwp_skip
          | fail)
        refine dwp_loop (fun st => ∃ (bi : Nat) (H1 : DH) (pos : Nat), ∃ J : Nat → DV, (Bx A H1 [(bi, .iter c pos)] [] ∧ pos ≤ c.length ∧ (Plain (c.drop pos) → Plain c)) ∧ st = ⟨(.str s :: .str c :: .int .u8 pad :: J 3 :: J 4 :: J 5 :: .bool false :: .bool true :: J 8 :: J 9 :: J 10 :: J 11 :: J 12 :: J 13 :: J 14 :: J 15 :: J 16 :: J 17 :: J 18 :: J 19 :: J 20 :: J 21 :: J 22 :: J 23 :: J 24 :: J 25 :: J 26 :: J 27 :: J 28 :: J 29 :: J 30 :: J 31 :: J 32 :: J 33 :: J 34 :: J 35 :: J 36 :: J 37 :: J 38 :: J 39 :: J 40 :: .ptr (some (bi, 0, 0)) :: J 42 :: J 43 :: J 44 :: J 45 :: J 46 :: J 47 :: J 48 :: J 49 :: J 50 :: J 51 :: J 52 :: J 53 :: J 54 :: J 55 :: J 56 :: J 57 :: J 58 :: J 59 :: J 60 :: J 61 :: J 62 :: J 63 :: J 64 :: J 65 :: J 66 :: J 67 :: J 68 :: J 69 :: J 70 :: J 71 :: J 72 :: J 73 :: J 74 :: J 75 :: J 76 :: J 77 :: J 78 :: J 79 :: J 80 :: J 81 :: J 82 :: J 83 :: J 84 :: J 85 :: J 86 :: J 87 :: J 88 :: J 89 :: J 90 :: J 91 :: J 92 :: J 93 :: J 94 :: J 95 :: J 96 :: J 97 :: J 98 :: J 99 :: J 100 :: []), H1⟩) (fun st => c.length - posOf st 41) (⟨_, _, 0, junk_facts (⟨hB, Nat.zero_le _, id⟩) rfl rfl⟩) ?_
        rintro st ⟨bi, H1, pos, J, ⟨hB, hpos, hpl⟩, rfl⟩
        by_cases hlt : pos < c.length
        · have hne : c.drop pos ≠ [] := by
            intro h
            have := congrArg List.length h
            rw [List.length_drop] at this
            simp at this
            omega
          obtain ⟨cn, w, hcw⟩ : ∃ cn w, decL (c.drop pos) = (cn, w) := ⟨_, _, rfl⟩
          have hww := decL_width hne
          rw [hcw, List.length_drop] at hww
          simp only at hww
          have hdec : Utf8.decode ⟨c.toArray⟩ pos = (cn, w) := by rw [decode_drop c pos hpos, hcw]
          have hB0 := hB
          cases h10 : ((cn : Int) == 10) with
          | true =>
            repeat' (first
              | dsimp only [putD, DV.cells, DH.new_next, DH.set_next, List.length_cons, List.length_nil, Nat.reduceAdd, List.set_cons_zero, List.set_cons_succ, getD_zero, getD_succ, fieldAt_zero, fieldAt_succ, thenD, blockD, retR]
              | apply dwp_seq
              | apply dwp_region
              | apply ops_nil
              | (apply ops_plain; (· exact rfl))
              | (apply ops_off0; (· exact rfl); (· exact rfl); (· (first | with_reducible assumption | with_reducible rfl | decide)))
              | (apply op_pick_t; (· exact rfl); (· exact rfl); (· (first | with_reducible assumption | with_reducible rfl | decide)); (· exact rfl))
              | (apply bx_next (c := cn) (w := w); (· exact rfl); (· exact rfl); (· assumption); (· (repeat (first | with_reducible exact Upd.here | with_reducible apply Upd.there | with_reducible apply upd_app))); (· exact hlt); (· exact hdec); intro H1 hB)
              | (apply op_at; (· exact rfl))
              | (apply dwp_cond_t; (· exact rfl); (· (first | with_reducible assumption | with_reducible rfl | decide)))
              | apply dwp_block
              | apply dwp_skip
              | apply dwp_ret
              | (refine ⟨_, rfl, ?_⟩)
              | fail)
          | false =>
            cases h65 : ((cn : Int) == 65533) with
            | true =>
              repeat' (first
                | dsimp only [putD, DV.cells, DH.new_next, DH.set_next, List.length_cons, List.length_nil, Nat.reduceAdd, List.set_cons_zero, List.set_cons_succ, getD_zero, getD_succ, fieldAt_zero, fieldAt_succ, thenD, blockD, retR]
                | apply dwp_seq
                | apply dwp_region
                | apply ops_nil
                | (apply ops_plain; (· exact rfl))
                | (apply ops_on; (· exact rfl); (· exact rfl); (· (first | with_reducible assumption | with_reducible rfl | decide)))
                | (apply op_pick_f; (· exact rfl); (· exact rfl); (· (first | with_reducible assumption | with_reducible rfl | decide)); (· exact rfl))
                | (apply bx_next (c := cn) (w := w); (· exact rfl); (· exact rfl); (· assumption); (· (repeat (first | with_reducible exact Upd.here | with_reducible apply Upd.there | with_reducible apply upd_app))); (· exact hlt); (· exact hdec); intro H1 hB)
                | (apply op_at; (· exact rfl))
                | (apply dwp_cond_t; (· exact rfl); (· (first | with_reducible assumption | with_reducible rfl | decide)))
                | apply dwp_block
                | apply dwp_skip
                | apply dwp_ret
                | (refine ⟨_, rfl, ?_⟩)
                | fail)
            | false =>
              repeat' (first
                | dsimp only [putD, DV.cells, DH.new_next, DH.set_next, List.length_cons, List.length_nil, Nat.reduceAdd, List.set_cons_zero, List.set_cons_succ, getD_zero, getD_succ, fieldAt_zero, fieldAt_succ, thenD, blockD, retR]
                | apply dwp_seq
                | apply dwp_region
                | apply ops_nil
                | (apply ops_plain; (· exact rfl))
                | (apply ops_on; (· exact rfl); (· exact rfl); (· (first | with_reducible assumption | with_reducible rfl | decide)))
                | (apply op_pick_f; (· exact rfl); (· exact rfl); (· (first | with_reducible assumption | with_reducible rfl | decide)); (· exact rfl))
                | (apply bx_next (c := cn) (w := w); (· exact rfl); (· exact rfl); (· assumption); (· (repeat (first | with_reducible exact Upd.here | with_reducible apply Upd.there | with_reducible apply upd_app))); (· exact hlt); (· exact hdec); intro H1 hB)
                | (apply op_at; (· exact rfl))
                | (apply dwp_cond_t; (· exact rfl); (· (first | with_reducible assumption | with_reducible rfl | decide)))
                | (apply dwp_cond_f; (· exact rfl); (· (first | with_reducible assumption | with_reducible rfl | decide)))
                | apply dwp_block
                | apply dwp_skip
                | fail)
              have k1 : cn ≠ 10 := by
                have : ¬ (cn : Int) = 10 := by simpa using h10
                omega
              have k2 : cn ≠ 65533 := by
                have : ¬ (cn : Int) = 65533 := by simpa using h65
                omega
              refine ⟨⟨_, _, pos + w, junk_facts ⟨hB, by omega, fun h => hpl (plain_step hne hcw k1 k2 h)⟩ rfl rfl⟩, ?_⟩
              rw [posOf_at rfl (hB.get At.here), posOf_at rfl (hB0.get At.here)]
              omega
        · have hplain : Plain c := hpl (by rw [List.drop_eq_nil_of_le (by omega)]; exact plain_nil)
          have hp7 : 0 ≤ pad.tmod 7 ∧ pad.tmod 7 ≤ 6 := by
            have : pad.tmod 7 = pad % 7 := Int.tmod_eq_emod_of_nonneg hpad.1
            omega
          obtain ⟨pp, hpp⟩ : ∃ x, ([10, 10, 10, 10, 9, 32] : List UInt8).take (pad.tmod 7).toNat = x := ⟨_, rfl⟩
          have hpl6 : pp.length ≤ 6 := by rw [← hpp]; simp; omega
          have hpb : ∀ x ∈ pp, x = 32 ∨ x = 9 ∨ x = 10 := by
            intro x hx
            rw [← hpp] at hx
            have := List.mem_of_mem_take hx
            simp only [List.mem_cons, List.not_mem_nil, or_false] at this
            rcases this with h | h | h | h | h | h <;> simp [h]
          obtain ⟨r1, r2⟩ := remarks pp s c hpb hplain
          obtain ⟨r3, r4⟩ := remark_alone c hplain
          have l1 : s.length ≤ 65536 := by omega
          have l2 : (pp ++ s ++ [10, 35] ++ c).length ≤ 65536 := by simp; omega
          have l3 : ([35, 32] ++ c).length ≤ 65536 := by simp; omega
          have a1 : pp.length + s.length ≤ 4294967296 := by omega
          have a2 : (pp ++ s).length + 2 ≤ 4294967296 := by simp; omega
          have a3 : (pp ++ s ++ [10, 35]).length + c.length ≤ 4294967296 := by simp; omega
          have a4 : 2 + c.length ≤ 4294967296 := by omega
          by_cases he : (cutF s).e = 0
          · have het : (cutF (pp ++ s ++ [10, 35] ++ c)).e = 0 := by rw [r1]; exact he
            have htk := r2 he
            have hlt1 : (cutF s).toks.length ≤ 1000000 := by
              have k1 := goR_len (runes s) cu0 (1, 1)
              have k2 := runes_len _ s (Nat.le_refl _)
              have k3 : cu0.toks.length = 0 := rfl
              unfold cutF
              omega
            repeat' (first
              | dsimp only [putD, DV.cells, DH.new_next, DH.set_next, List.length_cons, List.length_nil, Nat.reduceAdd, List.set_cons_zero, List.set_cons_succ, getD_zero, getD_succ, fieldAt_zero, fieldAt_succ, thenD, blockD, retR]
              | apply dwp_seq
              | apply dwp_region
              | apply ops_nil
              | (apply ops_plain; (· exact rfl))
              | (apply ops_on; (· exact rfl); (· exact rfl); (· (first | with_reducible assumption | with_reducible rfl | decide)))
              | (apply op_call; (· exact rfl); (· exact rfl); (· exact rfl); (apply cut_ok (s := s); (· exact l1); (· exact he); (· assumption); intro s1 s2 x1 x2 H1 o1 o2 hB))
              | (apply op_call; (· exact rfl); (· exact rfl); (· exact rfl); (apply cut_ok (s := pp ++ s ++ [10, 35] ++ c); (· exact l2); (· exact het); (· assumption); intro s3 s4 x3 x4 H1 o3 o4 hB))
              | (apply op_call; (· exact rfl); (· exact rfl); (· exact rfl); (apply cut_ok (s := [35, 32] ++ c); (· exact l3); (· exact r3); (· assumption); intro s5 s6 x5 x6 H1 o5 o6 hB; have hn5 : ((s5.n : Int) == 0) = true := by rw [own_len o5, r4]; rfl))
              | (apply op_call; (· exact rfl); (· exact rfl); (· exact rfl); (obtain ⟨p1, c1, ex1, e1, sl1⟩ := o1.sl hB (by (repeat (first | with_reducible exact Ctx.here | with_reducible apply Ctx.cons | with_reducible apply Ctx.app))); obtain ⟨p3, c3, ex3, e3, sl3⟩ := o3.sl hB (by (repeat (first | with_reducible exact Ctx.here | with_reducible apply Ctx.cons | with_reducible apply Ctx.app))); rw [e1, e3, List.length_map, List.length_map]; refine (same25 sl1 sl3 hlt1).mono ?_; rintro r0 H' ⟨rfl, rfl⟩; rw [htk, decide_eq_true rfl]))
              | (apply op_pick_t; (· exact rfl); (· exact rfl); (· (first | with_reducible assumption | with_reducible rfl | decide)); (· exact rfl))
              | (apply bx_next_end; (· exact rfl); (· exact rfl); (· assumption); (· exact At.here); (· exact hlt))
              | (apply op_told; (· exact opD_strTake (m := pad.tmod 7) rfl rfl rfl rfl (by first | exact hp7 | exact ⟨hp7.1, Int.le_trans hp7.2 (by decide)⟩)); (· exact congrArg DV.str hpp))
              | (apply op_at; (· exact opD_strAdd rfl rfl rfl a1))
              | (apply op_at; (· exact opD_strAdd rfl rfl rfl a2))
              | (apply op_at; (· exact opD_strAdd rfl rfl rfl a3))
              | (apply op_at; (· exact opD_strAdd rfl rfl rfl a4))
              | (apply bx_store0; (· exact rfl); (· exact rfl); (· exact rfl); (· assumption); (· (first | (dsimp only [putD, DV.cells, DH.new_next, DH.set_next, List.length_cons, List.length_nil, Nat.reduceAdd, List.set_cons_zero, List.set_cons_succ, getD_zero, getD_succ, fieldAt_zero, fieldAt_succ, thenD, blockD, retR, Sv.cells]; done) | (dsimp only [putD, DV.cells, DH.new_next, DH.set_next, List.length_cons, List.length_nil, Nat.reduceAdd, List.set_cons_zero, List.set_cons_succ, getD_zero, getD_succ, fieldAt_zero, fieldAt_succ, thenD, blockD, retR, Sv.cells]; exact rfl) | exact rfl)); (· (repeat (first | with_reducible exact Upd.here | with_reducible apply Upd.there | with_reducible apply upd_app))); (· exact rfl); (· exact rfl); (· exact rfl); (· exact rfl); intro H1 hB)
              | (apply bx_alloc; (· exact rfl); (· exact zero49); (· (first | (dsimp only [putD, DV.cells, DH.new_next, DH.set_next, List.length_cons, List.length_nil, Nat.reduceAdd, List.set_cons_zero, List.set_cons_succ, getD_zero, getD_succ, fieldAt_zero, fieldAt_succ, thenD, blockD, retR, Sv.cells]; done) | (dsimp only [putD, DV.cells, DH.new_next, DH.set_next, List.length_cons, List.length_nil, Nat.reduceAdd, List.set_cons_zero, List.set_cons_succ, getD_zero, getD_succ, fieldAt_zero, fieldAt_succ, thenD, blockD, retR, Sv.cells]; exact rfl) | exact rfl)); (· exact rfl); (· exact rfl); (· assumption); intro b1 H1 hB)
              | (apply op_at; (· exact rfl))
              | (apply dwp_cond_f; (· exact rfl); (· (first | with_reducible assumption | with_reducible rfl | decide)))
              | apply dwp_ret
              | apply dwp_exit
              | (refine ⟨_, rfl, ?_⟩)
              | fail)
            rw [hn5]
          · have het : (cutF (pp ++ s ++ [10, 35] ++ c)).e ≠ 0 := by rw [r1]; exact he
            have heq : ((cutF s).e == (cutF (pp ++ s ++ [10, 35] ++ c)).e) = true := by rw [r1]; simp
            repeat' (first
              | dsimp only [putD, DV.cells, DH.new_next, DH.set_next, List.length_cons, List.length_nil, Nat.reduceAdd, List.set_cons_zero, List.set_cons_succ, getD_zero, getD_succ, fieldAt_zero, fieldAt_succ, thenD, blockD, retR]
              | apply dwp_seq
              | apply dwp_region
              | apply ops_nil
              | (apply ops_plain; (· exact rfl))
              | (apply ops_on; (· exact rfl); (· exact rfl); (· (first | with_reducible assumption | with_reducible rfl | decide)))
              | (apply op_call; (· exact rfl); (· exact rfl); (· exact rfl); (apply cut_err (s := s); (· exact l1); (· exact he); (· assumption); intro H1 hB))
              | (apply op_call; (· exact rfl); (· exact rfl); (· exact rfl); (apply cut_err (s := pp ++ s ++ [10, 35] ++ c); (· exact l2); (· exact het); (· assumption); intro H1 hB))
              | (apply op_call; (· exact rfl); (· exact rfl); (· exact rfl); (apply cut_ok (s := [35, 32] ++ c); (· exact l3); (· exact r3); (· assumption); intro s5 s6 x5 x6 H1 o5 o6 hB; have hn5 : ((s5.n : Int) == 0) = true := by rw [own_len o5, r4]; rfl))
              | (apply op_call; (· exact rfl); (· exact rfl); (· exact rfl); (refine (same25 (l := []) (m := []) (.nil rfl) (.nil rfl) (Nat.zero_le _)).mono ?_; rintro r0 H' ⟨rfl, rfl⟩; rw [decide_eq_true rfl]))
              | (apply op_pick_t; (· exact rfl); (· exact rfl); (· (first | with_reducible assumption | with_reducible rfl | decide)); (· exact rfl))
              | (apply bx_next_end; (· exact rfl); (· exact rfl); (· assumption); (· exact At.here); (· exact hlt))
              | (apply op_told; (· exact opD_strTake (m := pad.tmod 7) rfl rfl rfl rfl (by first | exact hp7 | exact ⟨hp7.1, Int.le_trans hp7.2 (by decide)⟩)); (· exact congrArg DV.str hpp))
              | (apply op_at; (· exact opD_strAdd rfl rfl rfl a1))
              | (apply op_at; (· exact opD_strAdd rfl rfl rfl a2))
              | (apply op_at; (· exact opD_strAdd rfl rfl rfl a3))
              | (apply op_at; (· exact opD_strAdd rfl rfl rfl a4))
              | (apply bx_store0; (· exact rfl); (· exact rfl); (· exact rfl); (· assumption); (· (first | (dsimp only [putD, DV.cells, DH.new_next, DH.set_next, List.length_cons, List.length_nil, Nat.reduceAdd, List.set_cons_zero, List.set_cons_succ, getD_zero, getD_succ, fieldAt_zero, fieldAt_succ, thenD, blockD, retR, Sv.cells]; done) | (dsimp only [putD, DV.cells, DH.new_next, DH.set_next, List.length_cons, List.length_nil, Nat.reduceAdd, List.set_cons_zero, List.set_cons_succ, getD_zero, getD_succ, fieldAt_zero, fieldAt_succ, thenD, blockD, retR, Sv.cells]; exact rfl) | exact rfl)); (· (repeat (first | with_reducible exact Upd.here | with_reducible apply Upd.there | with_reducible apply upd_app))); (· exact rfl); (· exact rfl); (· exact rfl); (· exact rfl); intro H1 hB)
              | (apply bx_alloc; (· exact rfl); (· exact zero49); (· (first | (dsimp only [putD, DV.cells, DH.new_next, DH.set_next, List.length_cons, List.length_nil, Nat.reduceAdd, List.set_cons_zero, List.set_cons_succ, getD_zero, getD_succ, fieldAt_zero, fieldAt_succ, thenD, blockD, retR, Sv.cells]; done) | (dsimp only [putD, DV.cells, DH.new_next, DH.set_next, List.length_cons, List.length_nil, Nat.reduceAdd, List.set_cons_zero, List.set_cons_succ, getD_zero, getD_succ, fieldAt_zero, fieldAt_succ, thenD, blockD, retR, Sv.cells]; exact rfl) | exact rfl)); (· exact rfl); (· exact rfl); (· assumption); intro b1 H1 hB)
              | (apply op_at; (· exact rfl))
              | (apply dwp_cond_f; (· exact rfl); (· (first | with_reducible assumption | with_reducible rfl | decide)))
              | apply dwp_ret
              | apply dwp_exit
              | (refine ⟨_, rfl, ?_⟩)
              | fail)
            rw [hn5]
end Go.Det.C

/- LexNumbers. -/
namespace Go.Det.C
open Go Go.Det Go.Proofs
set_option maxRecDepth 4000
set_option maxHeartbeats 4000000
set_option linter.unusedVariables false
set_option linter.unusedSimpArgs false
section
variable {A H : DH} {bs : List (Nat × DObj)} {fs : List (DH → Prop)} {K : DV → DH → Prop}
end
end Go.Det.C
