/- strings.Builder: WriteString, String: what they write, and that all else stands. -/
import Derived.Shelf.Strings.Builder1
import Derived.Tactics
import Derived.Tactics2
import Derived.WalkKit
import Derived.WalkSpells
import Derived.RowKit
import Derived.Test.YtlmjhpnmfmnmgaaDoorCovT9
namespace Go.Det.C
open Go Go.Det Go.Proofs Go.RowKit
set_option maxRecDepth 100000
set_option maxHeartbeats 4000000
set_option linter.unusedVariables false
set_option linter.unusedSimpArgs false
/-- What else lies stands. -/
structure Keeps (w w' : World) (S : Nat → Prop) : Prop where
  os : w'.os = w.os
  tape : w'.tape = w.tape
  output : w'.output = w.output
  size : w.heap.size ≤ w'.heap.size
  block : ∀ k, k < w.heap.size → ¬ S k → w'.heap[k]? = w.heap[k]?
theorem setCell_block (w : World) (b o : Nat) (v : Value) {k : Nat} (h : k ≠ b) : (w.setCell ⟨b, o, none⟩ v).heap[k]? = w.heap[k]? := Below.heap_setCell _ _ _ _ (fun e => h e)
theorem setCell_size (w : World) (b o : Nat) (v : Value) : (w.setCell ⟨b, o, none⟩ v).heap.size = w.heap.size := by simp [World.setCell]
theorem setCell_at (w : World) (b o : Nat) (v : Value) {cs : Array Value} {T : TypeId} {fr : Nat × Nat} (h : w.heap[b]? = some (.cells cs T fr)) : (w.setCell ⟨b, o, none⟩ v).heap[b]? = some (.cells (cs.setIfInBounds o v) T fr) := by
  simp [World.setCell, Array.getElem?_modify, h]
theorem copy68 {b : Nat} {u : Bool} {v : Value} {w : World} (hbk : w.heap[b]? = some (.cells #[if u then .pointer (some ⟨b, 0, none⟩) else .pointer none, v] 70 (0, 0))) :
    Calls Tryd.prog 68 #[.pointer (some ⟨b, 0, none⟩)] w fun e w' => e = .returned (.tuple #[]) ∧ w'.heap[b]? = some (.cells #[.pointer (some ⟨b, 0, none⟩), v] 70 (0, 0)) ∧ Keeps w w' (fun k => k = b) ∧ w'.heap.size = w.heap.size := by
  cases u with
  | true =>
    refine (Any.Builder_copyCheck_used (ρ := Tryd.lays156_ren) { Tryd.lays156 with } Tryd.bextra156.toX72 b w (by rw [Lib.cell_of_heap hbk]; rfl)).mono ?_
    rintro e w' ⟨rfl, rfl⟩
    exact ⟨rfl, hbk, ⟨rfl, rfl, rfl, Nat.le_refl _, fun _ _ _ => rfl⟩, rfl⟩
  | false =>
    refine (Any.Builder_copyCheck_fresh (ρ := Tryd.lays156_ren) { Tryd.lays156 with } Tryd.bextra156.toX72 b w (by rw [Lib.cell_of_heap hbk]; rfl) (by simp [World.shape?, hbk]; rfl) (Lib.frozen_of_heap hbk 0)).mono ?_
    rintro e w' ⟨rfl, rfl⟩
    refine ⟨rfl, ?_, ⟨rfl, rfl, rfl, by rw [setCell_size]; exact Nat.le_refl _, fun k _ hk => setCell_block _ _ _ _ hk⟩, setCell_size _ _ _ _⟩
    rw [setCell_at _ _ _ _ hbk]
    rfl
theorem append38 {w : World} {v : Value} {xs : List Value} (hown : w.ownsRow 0 5 1 v xs.length xs) {s : ByteArray} (hs : 0 < s.size) (hb : xs.length + s.size ≤ 1000000000) :
    ∃ g c w', (Builtin.append_ #[68, 9] 68 #[v, .string s]).run Tryd.prog w = .ok (.slice (some ⟨g, 0, none⟩) (xs.length + s.size) c) w' ∧ w'.ownsRow 0 5 1 (.slice (some ⟨g, 0, none⟩) (xs.length + s.size) c) (xs.length + s.size) (xs ++ Lib.strCells s) ∧ w.grownBy w' v.ownBlock ∧ (v.ownBlock = some g ∨ w.heap.size ≤ g) := by
  obtain ⟨i0, hi, hz0, hz1, hz2⟩ := info_parts Tryd.bextra156.infoByte
  rcases hown.2 with ⟨rfl, hn⟩ | ⟨g, cap, cur, rfl, hbg, hg, hnc, hcm, hcs, htake⟩
  · have hown' : w.ownsRow w.heap.size 5 1 (.slice none 0 0) xs.length xs := ⟨hown.1, .inl ⟨rfl, hn⟩⟩
    obtain ⟨v', w', hr, h2, h3, h4⟩ := Lib.run_append_own_string (P := Tryd.prog) w w.heap.size 68 9 68 5 i0 Tryd.underlying68 Tryd.underlying9 hi hz0 hz1 hz2 _ _ _ hown' s (by unfold maxLen; omega) (by omega) (Nat.le_refl _)
    rcases h2.2 with ⟨_, h⟩ | ⟨g, cap, cur, rfl, hbg, rest⟩
    · omega
    · exact ⟨g, cap, w', hr, ⟨h2.1, .inr ⟨g, cap, cur, rfl, Nat.zero_le _, rest⟩⟩, h3, .inr hbg⟩
  · obtain ⟨v', w', hr, h2, h3, h4⟩ := Lib.run_append_own_string (P := Tryd.prog) w 0 68 9 68 5 i0 Tryd.underlying68 Tryd.underlying9 hi hz0 hz1 hz2 _ _ _ hown s (by unfold maxLen; omega) (by omega) (Nat.zero_le _)
    by_cases hroom : xs.length + s.size ≤ cap
    · have hr2 := Lib.run_append_room_string (P := Tryd.prog) w 68 9 68 5 i0 Tryd.underlying68 Tryd.underlying9 hi hz1 g xs.length cap cur hg s hroom (by omega)
      rw [hr2] at hr
      injection hr with e1 e2
      subst e1 e2
      exact ⟨g, cap, _, hr2, h2, h3, .inl rfl⟩
    · have holds : ∀ j u, xs[j]? = some u → w.cell? ((⟨g, 0, none⟩ : Addr).add j) = some u := hown.cells (g := g) rfl
      have hr2 := Lib.run_append_grow_string (P := Tryd.prog) w 68 9 68 5 i0 (.int .u8 0) Tryd.underlying68 Tryd.underlying9 hi hz0 ⟨g, 0, none⟩ xs.length cap xs (by rw [hz1]; simp) holds s (by omega) (by omega) (by rw [hz2]; exact growslice_fits (by omega) (by omega))
      rw [hr2] at hr
      injection hr with e1 e2
      subst e1 e2
      exact ⟨_, _, _, hr2, h2, h3, .inr (Nat.le_refl _)⟩
theorem wpList_append38 {w : World} {ops : Array Oper} {rest : List Oper} {o : Oper} {a : Act} {Q : Exit → Act → World → Prop} (hgd : o.guard = none) (sl x : Operand)
    (ho : o.op = .call { callee := .builtin .append, args := #[sl, x], argTypes := #[68, 9] }) (hty : o.type = 68) {v : Value} {xs : List Value} {s : ByteArray} (h1 : a.eval sl = v) (h2 : a.eval x = .string s) (hown : w.ownsRow 0 5 1 v xs.length xs) (hs : 0 < s.size) (hb : xs.length + s.size ≤ 1000000000)
    (h : ∀ g c w', w'.ownsRow 0 5 1 (.slice (some ⟨g, 0, none⟩) (xs.length + s.size) c) (xs.length + s.size) (xs ++ Lib.strCells s) → w.grownBy w' v.ownBlock → (v.ownBlock = some g ∨ w.heap.size ≤ g) → wpList Tryd.prog ops Q rest (a.put o.dst (.slice (some ⟨g, 0, none⟩) (xs.length + s.size) c)) w') : wpList Tryd.prog ops Q (o :: rest) a w := by
  obtain ⟨g, c, w', hr, k1, k2, k3⟩ := append38 hown hs hb
  refine wpList_plain hgd fun K hK => ?_
  unfold Oper.wp execOp
  simp only [ho, resolve, invoke, builtin, Sem.run_bind, Sem.run_pure, Result.andThen_ok, List.map_toArray, List.map_cons, List.map_nil, h1, h2, hty, hr]
  exact hK _ _ (h g c w' k1 k2 k3)
theorem write38 {b : Nat} {u : Bool} {v : Value} {xs : List Value} {s : ByteArray} {w : World} (hbk : w.heap[b]? = some (.cells #[if u then .pointer (some ⟨b, 0, none⟩) else .pointer none, v] 70 (0, 0)))
    (hown : w.ownsRow 0 5 1 v xs.length xs) (hs : 0 < s.size) (hb : xs.length + s.size ≤ 1000000000) :
    Calls Tryd.prog 38 #[.pointer (some ⟨b, 0, none⟩), .string s] w fun e w' => e = .returned (.tuple #[.int .i64 s.size, .nilIface]) ∧ ∃ g c, w'.heap[b]? = some (.cells #[.pointer (some ⟨b, 0, none⟩), .slice (some ⟨g, 0, none⟩) (xs.length + s.size) c] 70 (0, 0)) ∧ w'.ownsRow 0 5 1 (.slice (some ⟨g, 0, none⟩) (xs.length + s.size) c) (xs.length + s.size) (xs ++ Lib.strCells s) ∧
      Keeps w w' (fun k => k = b ∨ v.ownBlock = some k) ∧ (v.ownBlock = some g ∨ w.heap.size ≤ g) ∧ g ≠ b := by
  have hne : v.ownBlock ≠ some b := Lib.ownBlock_ne hown hbk (by decide)
  have hblt : b < w.heap.size := (Array.getElem?_eq_some_iff.1 hbk).1
  have e68 : ∀ args w, (callFunc 68 args).run Tryd.prog w = .ok (.enter 68 args) w := enters_of Tryd.func68 (by kernel_rfl) rfl
  go_enter Tryd.func38, Tryd.ntmps38
  go_wp2_with (go_at_call 68; refine (copy68 hbk).mono ?_)
  rintro e w1 ⟨rfl, hbk1, hk1, hsz1⟩
  have c0 : w1.cell? ⟨b, 0, none⟩ = some (.pointer (some ⟨b, 0, none⟩)) := by rw [Lib.cell_of_heap hbk1]; rfl
  have c1 : w1.cell? ⟨b, 1, none⟩ = some v := by rw [Lib.cell_of_heap hbk1]; rfl
  have hown1 : w1.ownsRow 0 5 1 v xs.length xs := hown.kept (row := some b) ⟨hk1.os, hk1.tape, hk1.output, hk1.size, fun k hk h => hk1.block k hk (fun e => h (by rw [e]))⟩ (.inr hne)
  go_wp2_with (at_builtin; refine wpList_append38 rfl _ _ rfl rfl rfl rfl hown1 hs hb ?_)
  intro g c w2 hown2 hgr hgn
  have hb2 : w2.heap[b]? = some (.cells #[.pointer (some ⟨b, 0, none⟩), v] 70 (0, 0)) := by
    rw [hgr.block b (by omega) (fun e => hne e.symm)]
    exact hbk1
  have d0 : w2.cell? ⟨b, 0, none⟩ = some (.pointer (some ⟨b, 0, none⟩)) := by rw [Lib.cell_of_heap hb2]; rfl
  have d1 : w2.cell? ⟨b, 1, none⟩ = some v := by rw [Lib.cell_of_heap hb2]; rfl
  have f1 : w2.frozen? ⟨b, 1, none⟩ = false := Lib.frozen_of_heap hb2 1
  go_wp2
  go_ret2
  have hgb : g ≠ b := by
    rcases hgn with h | h
    · intro e; rw [e] at h; exact hne h
    · intro e; omega
  refine ⟨rfl, g, c, ?_, ?_, ⟨?_, ?_, ?_, ?_, ?_⟩, ?_, hgb⟩
  · rw [setCell_at _ _ _ _ hb2]; rfl
  · exact hown2.kept (row := some b) ⟨rfl, rfl, rfl, by rw [setCell_size]; exact Nat.le_refl _, fun k hk h => setCell_block _ _ _ _ (fun e => h (by rw [e]))⟩ (.inr fun e => hgb (by simpa [Value.ownBlock] using e))
  · exact hgr.os.trans hk1.os
  · exact hgr.tape.trans hk1.tape
  · exact hgr.output.trans hk1.output
  · rw [setCell_size]; have := hgr.size; omega
  · intro k hk hn
    rw [setCell_block _ _ _ _ (fun e => hn (.inl e)), hgr.block k (by omega) (fun e => hn (.inr e.symm)), hk1.block k hk (fun e => hn (.inl e))]
  · rcases hgn with h | h
    · exact .inl h
    · exact .inr (by omega)
theorem freeze_keeps (w : World) (g n : Nat) : Keeps w (w.drew.freeze ⟨g, 0, none⟩ n) (fun k => k = g) := by
  have e : (w.drew.freeze ⟨g, 0, none⟩ n).os = w.os ∧ (w.drew.freeze ⟨g, 0, none⟩ n).tape = w.tape ∧ (w.drew.freeze ⟨g, 0, none⟩ n).output = w.output ∧ w.heap.size ≤ (w.drew.freeze ⟨g, 0, none⟩ n).heap.size ∧ ∀ k, k ≠ g → (w.drew.freeze ⟨g, 0, none⟩ n).heap[k]? = w.heap[k]? := by
    unfold World.freeze
    split
    · exact ⟨rfl, rfl, rfl, Nat.le_refl _, fun _ _ => rfl⟩
    · refine ⟨rfl, rfl, rfl, by show _ ≤ (Array.modify _ _ _).size; rw [Array.size_modify]; exact Nat.le_refl _, fun k hk => ?_⟩
      simp only [Array.getElem?_modify]
      rw [if_neg (fun e => hk e.symm)]
      rfl
  obtain ⟨h1, h2, h3, h4, h5⟩ := e
  exact ⟨h1, h2, h3, h4, fun k _ hk => h5 k hk⟩
theorem string42 {b g cap : Nat} {p : Value} {l : List UInt8} {cur : Array Value} {w : World} (hbk : w.heap[b]? = some (.cells #[p, .slice (some ⟨g, 0, none⟩) l.length cap] 70 (0, 0))) (hg : w.heap[g]? = some (.cells cur 5 (0, 0))) (h0 : l ≠ []) (hnc : l.length ≤ cap) (hcm : cap ≤ maxLen) (hcs : cur.size = cap) (htake : cur.toList.take l.length = Lib.byteCells l) :
    Calls Tryd.prog 42 #[.pointer (some ⟨b, 0, none⟩)] w fun e w' => e = .returned (.string ⟨l.toArray⟩) ∧ Keeps w w' (fun k => k = g) := by
  have L : Lays.n169 Tryd.prog Tryd.lays156_ren := { Tryd.lays156 with }
  have X := Tryd.bextra156
  have mixed := L.mixed
  have hown : w.ownsRow 0 5 1 (.slice (some ⟨g, 0, none⟩) l.length cap) l.length (Lib.byteCells l) := ⟨by simp [Lib.byteCells_length], .inr ⟨g, cap, cur, rfl, Nat.zero_le _, hg, hnc, hcm, by omega, by rw [Nat.mul_one]; exact htake⟩⟩
  have c1 : w.drew.cell? ⟨b, 1, none⟩ = some (.slice (some ⟨g, 0, none⟩) l.length cap) := by
    have : w.drew.heap[b]? = some (.cells #[p, .slice (some ⟨g, 0, none⟩) l.length cap] 70 (0, 0)) := hbk
    rw [Lib.cell_of_heap this]; rfl
  have hSD : (Builtin.unsafeSliceData_ #[68] 111 #[.slice (some ⟨g, 0, none⟩) l.length cap]).run Tryd.prog w.drew = .ok (.pointer (some ⟨g, 0, none⟩)) w.drew :=
    Lib.run_unsafeSliceData_row _ _ _ _ _ _ (by have := List.length_pos_iff.mpr h0; omega)
  have hUS : (Builtin.unsafeString_ #[111, 3] 9 #[.pointer (some ⟨g, 0, none⟩), .int .i64 l.length]).run Tryd.prog w.drew = .ok (.string ⟨l.toArray⟩) (w.drew.freeze ⟨g, 0, none⟩ l.length) := by
    refine Lib.run_unsafeString_row w.drew 111 3 9 5 L.t127 X.cellsByte g cur.size (by have hg' : w.drew.heap[g]? = some (.cells cur 5 (0, 0)) := hg; simp [World.shape?, hg']) l h0 (by omega) (by unfold maxLen at hcm; omega) ?_
    intro j x hx
    have := hown.cells (g := g) rfl j (.int .u8 x.toNat) (by simp [Lib.byteCells, hx])
    exact this
  go_enter Tryd.func42, Tryd.ntmps42
  go_wp2
  go_region_o
  all_goals (go_wp2; go_ret; exact ⟨rfl, freeze_keeps w g _⟩)
end Go.Det.C

/- The cutter: a piece ends. -/
namespace Go.Det.C
open Go Go.Det Go.Proofs
set_option maxRecDepth 4000
set_option maxHeartbeats 4000000
set_option linter.unusedVariables false
set_option linter.unusedSimpArgs false
theorem at_app {b : Nat} {o : DObj} {pre l : List (Nat × DObj)} (h : At b o l) : At b o (pre ++ l) := by
  induction pre with
  | nil => exact h
  | cons x pre ih => exact .there ih
def isLet (n : Int) : Bool := decide (97 ≤ n) && decide (n ≤ 122)
def isDgt (n : Int) : Bool := decide (48 ≤ n) && decide (n ≤ 57)
def Cu.cut (c : Cu) : Cu := { c with piece := [] }
noncomputable def Cu.fin (c : Cu) : Cu := if c.piece = [] then c.cut
  else if isLet ((c.piece.headD 0).toNat) = false then (if (numF c.piece).e = 0 then c.cut else c.cut.fail c.at' (numF c.piece).e).add ⟨2, c.piece, (numF c.piece).n, (numF c.piece).t⟩ c.at'
  else if 16 < c.piece.length then c.cut.fail c.at' 6 else c.cut.add ⟨1, c.piece, 0, false⟩ c.at'
section
variable {A H : DH} {bc : Nat} {c : Cu} {rest : List (Nat × DObj)} {fs : List (DH → Prop)} {K : DV → DH → Prop}
theorem Rep.sub {rest' : List (Nat × DObj)} (h : Rep A H bc c rest fs) (k : rest'.Sublist rest) : Rep A H bc c rest' fs := by
  obtain ⟨s1, s2, s3, x1, x2, x3, o1, o2, o3, hB⟩ := h.ex
  exact ⟨s1, s2, s3, x1, x2, x3, o1, o2, o3, hB.sub (((k.append_left _).append_left _).append_left _ |>.cons_cons _)⟩
end
end Go.Det.C

/- The cutter: a rune is taken; the place behind it. -/
namespace Go.Det.C
open Go Go.Det Go.Proofs
set_option maxRecDepth 4000
set_option maxHeartbeats 4000000
set_option linter.unusedVariables false
set_option linter.unusedSimpArgs false
noncomputable def Cu.take (c : Cu) (p : Int × Int) (r : Int) : Cu :=
  if c.remark = true ∧ r ≠ 10 then c
  else if isLet r = true ∨ isDgt r = true then { c with remark := false, at' := if c.piece = [] then p else c.at', piece := c.piece ++ [UInt8.ofNat r.toNat] }
  else let c1 := Cu.fin { c with remark := false }
    if r = 32 ∨ r = 9 ∨ r = 10 then c1
    else if r = 35 then { c1 with remark := true }
    else if r = 59 ∨ r = 123 ∨ r = 125 then c1.add ⟨3, [UInt8.ofNat r.toNat], 0, false⟩ p
    else if r = 45 then { c1 with piece := c1.piece ++ [45], at' := p }
    else c1.fail p 4
def nextP (p : Int × Int) (r : Int) : Int × Int := if r = 10 then (p.1 + 1, 1) else (p.1, p.2 + 1)
section
variable {A H : DH} {bc : Nat} {c : Cu} {rest : List (Nat × DObj)} {fs : List (DH → Prop)} {K : DV → DH → Prop}
end
end Go.Det.C

/- The place behind a rune; a text's runes. -/
namespace Go.Det.C
open Go Go.Det Go.Proofs
set_option maxRecDepth 4000
set_option maxHeartbeats 4000000
set_option linter.unusedVariables false
set_option linter.unusedSimpArgs false
/-! ### runes -/
end Go.Det.C

/- A text is cut. -/
namespace Go.Det.C
open Go Go.Det Go.Proofs
set_option maxRecDepth 4000
set_option maxHeartbeats 4000000
set_option linter.unusedVariables false
set_option linter.unusedSimpArgs false
theorem upd_app {b : Nat} {o o' : DObj} {pre l l' : List (Nat × DObj)} (h : Upd b o o' l l') : Upd b o o' (pre ++ l) (pre ++ l') := by
  induction pre with
  | nil => exact h
  | cons x pre ih => exact .there ih
/-- One rune. -/
noncomputable def stepR (c : Cu) (p : Int × Int) (x : Int × Bool) : Cu := (if x.2 then (c.fin).fail p 4 else c).take p x.1
/-- What is cut out of runes. -/
noncomputable def goR : List (Int × Bool) → Cu → Int × Int → Cu
  | [], c, p => c.fin
  | x :: r, c, p => if (stepR c p x).e = 0 then goR r (stepR c p x) (nextP p x.1) else stepR c p x
section
variable {A H : DH} {bs : List (Nat × DObj)} {fs : List (DH → Prop)} {K : DV → DH → Prop}
end
end Go.Det.C

/- Times: what a product is, where it is no more than a time may be. -/
namespace Go.Det.C
open Go Go.Det Go.Proofs
set_option maxRecDepth 4000
set_option maxHeartbeats 4000000
set_option linter.unusedVariables false
set_option linter.unusedSimpArgs false
theorem wrapU {n : Int} (h : 0 ≤ n ∧ n < 18446744073709551616) : IntKind.u64.wrap n = n := by
  unfold IntKind.wrap
  simp only [IntKind.signed, IntKind.bits]
  simp
  omega
/-- Is it a time? -/
def Fit (n : Int) : Prop := -1152921504606846976 ≤ n ∧ n ≤ 1152921504606846976
theorem size70x {a : Int} (h : Fit a) (H : DH) : CallWp Tryd.prog X1 70 [.int .i64 a] H (fun r H' => r = .int .u64 (a.natAbs : Int) ∧ H' = H) := by
  unfold Fit at h
  cases hn : decide (a < 0) with
  | true =>
    have hn' : a < 0 := by simpa using hn
    refine enter rfl Tryd.func70 rfl Tryd.ntmps70 rfl ?_
    dsimp only [List.cons_append, List.nil_append, List.length_cons, List.length_nil, List.replicate_succ, List.replicate_zero, Nat.reduceAdd, Nat.reduceSub]
    repeat' (first | dsimp only [putD, DV.cells, DH.new_next, DH.set_next, List.length_cons, List.length_nil, Nat.reduceAdd, List.set_cons_zero, List.set_cons_succ, getD_zero, getD_succ, fieldAt_zero, fieldAt_succ, thenD, blockD, retR] | apply dwp_seq | apply dwp_region | apply ops_nil | (apply ops_plain; (· exact rfl)) | (apply op_at; (· exact rfl)) | (apply dwp_cond_t; (· exact rfl); (· (with_reducible first | assumption | rfl | decide))) | apply dwp_ret | (refine ⟨_, rfl, ?_⟩) | fail)
    refine ⟨congrArg (DV.int _) ?_, rfl⟩
    have e : IntKind.u64.wrap a = 18446744073709551616 + a := by
      unfold IntKind.wrap
      simp only [IntKind.signed, IntKind.bits]
      simp
      omega
    rw [e]
    unfold IntKind.wrap
    simp only [IntKind.signed, IntKind.bits]
    simp
    omega
  | false =>
    have hn' : ¬ a < 0 := by simpa using hn
    refine enter rfl Tryd.func70 rfl Tryd.ntmps70 rfl ?_
    dsimp only [List.cons_append, List.nil_append, List.length_cons, List.length_nil, List.replicate_succ, List.replicate_zero, Nat.reduceAdd, Nat.reduceSub]
    repeat' (first | dsimp only [putD, DV.cells, DH.new_next, DH.set_next, List.length_cons, List.length_nil, Nat.reduceAdd, List.set_cons_zero, List.set_cons_succ, getD_zero, getD_succ, fieldAt_zero, fieldAt_succ, thenD, blockD, retR] | apply dwp_seq | apply dwp_region | apply ops_nil | (apply ops_plain; (· exact rfl)) | (apply op_at; (· exact rfl)) | (apply dwp_cond_f; (· exact rfl); (· (with_reducible first | assumption | rfl | decide))) | apply dwp_skip | apply dwp_ret | (refine ⟨_, rfl, ?_⟩) | fail)
    refine ⟨congrArg (DV.int _) ?_, rfl⟩
    rw [wrapU (by omega)]
    omega
theorem far89x {a : Int} (h : Fit a) (H : DH) : CallWp Tryd.prog X1 89 [.int .i64 a] H (fun r H' => r = .bool false ∧ H' = H) := by
  have h1 : decide (a > 1152921504606846976) = false := by unfold Fit at h; simp; omega
  have h2 : decide (a < -1152921504606846976) = false := by unfold Fit at h; simp; omega
  refine enter rfl Tryd.func89 rfl Tryd.ntmps89 rfl ?_
  dsimp only [List.cons_append, List.nil_append, List.length_cons, List.length_nil, List.replicate_succ, List.replicate_zero, Nat.reduceAdd, Nat.reduceSub]
  repeat' (first | dsimp only [putD, DV.cells, DH.new_next, DH.set_next, List.length_cons, List.length_nil, Nat.reduceAdd, List.set_cons_zero, List.set_cons_succ, getD_zero, getD_succ, fieldAt_zero, fieldAt_succ, thenD, blockD, retR] | apply dwp_seq | apply dwp_region | apply ops_nil | (apply ops_plain; (· exact rfl)) | (apply ops_on; (· exact rfl); (· exact rfl); (· (with_reducible first | assumption | rfl | decide))) | (apply op_pick_f; (· exact rfl); (· exact rfl); (· (with_reducible first | assumption | rfl | decide)); (· exact rfl)) | (apply op_at; (· exact rfl)) | apply dwp_ret | (refine ⟨_, rfl, ?_⟩) | fail)
  first | exact ⟨rfl, rfl⟩ | exact ⟨by rw [h2], rfl⟩
/-- What lies in a slice of three times, or of one. -/
inductive Times (H : DH) : DV → Prop
  | three {b : Nat} {x y z : Int} : H.obj b = some (.rows false 1 [[.int .i64 x], [.int .i64 y], [.int .i64 z]]) → Fit x → Fit y → Fit z → Times H (.sl (some (b, 0, 1)) 3 3 true)
  | one {b : Nat} {x : Int} : H.obj b = some (.rows false 1 [[.int .i64 x]]) → Fit x → Times H (.sl (some (b, 0, 1)) 1 1 true)
theorem index99x {s : DV} {H : DH} (h : Times H s) : CallWp Tryd.prog X1 99 [s, .func (.func 89) [] []] H (fun r H' => r = .int .i64 (-1) ∧ H' = H) := by
  cases h with
  | three h f1 f2 f3 =>
    refine enter rfl Tryd.func99 rfl Tryd.ntmps99 rfl ?_
    dsimp only [List.cons_append, List.nil_append, List.length_cons, List.length_nil, List.replicate_succ, List.replicate_zero, Nat.reduceAdd, Nat.reduceSub]
    repeat' (first | dsimp only [putD, DV.cells, DH.new_next, DH.set_next, List.length_cons, List.length_nil, Nat.reduceAdd, List.set_cons_zero, List.set_cons_succ, getD_zero, getD_succ, fieldAt_zero, fieldAt_succ, thenD, blockD, retR] | refine dwp_round ?_ | apply dwp_seq | apply dwp_region | apply ops_nil | (apply ops_plain; (· exact rfl)) | (apply op_call; (· exact rfl); (· exact rfl); (· exact rfl); (refine (far89x f1 _).mono ?_; rintro r H' ⟨rfl, rfl⟩)) | (apply op_call; (· exact rfl); (· exact rfl); (· exact rfl); (refine (far89x f2 _).mono ?_; rintro r H' ⟨rfl, rfl⟩)) | (apply op_call; (· exact rfl); (· exact rfl); (· exact rfl); (refine (far89x f3 _).mono ?_; rintro r H' ⟨rfl, rfl⟩)) | (apply op_load_at; (· exact rfl); (· exact rfl); (· exact h); (· exact rfl); (· exact rfl)) | (apply op_at; (· exact rfl)) | (apply dwp_cond_t; (· exact rfl); (· (with_reducible first | assumption | rfl | decide))) | (apply dwp_cond_f; (· exact rfl); (· (with_reducible first | assumption | rfl | decide))) | apply dwp_block | apply dwp_skip | apply dwp_ret | apply dwp_exit | (refine ⟨_, rfl, ?_⟩) | fail)
    exact ⟨rfl, rfl⟩
  | one h f1 =>
    refine enter rfl Tryd.func99 rfl Tryd.ntmps99 rfl ?_
    dsimp only [List.cons_append, List.nil_append, List.length_cons, List.length_nil, List.replicate_succ, List.replicate_zero, Nat.reduceAdd, Nat.reduceSub]
    repeat' (first | dsimp only [putD, DV.cells, DH.new_next, DH.set_next, List.length_cons, List.length_nil, Nat.reduceAdd, List.set_cons_zero, List.set_cons_succ, getD_zero, getD_succ, fieldAt_zero, fieldAt_succ, thenD, blockD, retR] | refine dwp_round ?_ | apply dwp_seq | apply dwp_region | apply ops_nil | (apply ops_plain; (· exact rfl)) | (apply op_call; (· exact rfl); (· exact rfl); (· exact rfl); (refine (far89x f1 _).mono ?_; rintro r H' ⟨rfl, rfl⟩)) | (apply op_load_at; (· exact rfl); (· exact rfl); (· exact h); (· exact rfl); (· exact rfl)) | (apply op_at; (· exact rfl)) | (apply dwp_cond_t; (· exact rfl); (· (with_reducible first | assumption | rfl | decide))) | (apply dwp_cond_f; (· exact rfl); (· (with_reducible first | assumption | rfl | decide))) | apply dwp_block | apply dwp_skip | apply dwp_ret | apply dwp_exit | (refine ⟨_, rfl, ?_⟩) | fail)
    exact ⟨rfl, rfl⟩
theorem has88x {s : DV} {H : DH} (h : Times H s) : CallWp Tryd.prog X1 88 [s, .func (.func 89) [] []] H (fun r H' => r = .bool false ∧ H' = H) := by
  refine enter rfl Tryd.func88 rfl Tryd.ntmps88 rfl ?_
  dsimp only [List.cons_append, List.nil_append, List.length_cons, List.length_nil, List.replicate_succ, List.replicate_zero, Nat.reduceAdd, Nat.reduceSub]
  repeat' (first | dsimp only [putD, DV.cells, DH.new_next, DH.set_next, List.length_cons, List.length_nil, Nat.reduceAdd, List.set_cons_zero, List.set_cons_succ, getD_zero, getD_succ, fieldAt_zero, fieldAt_succ, thenD, blockD, retR] | apply dwp_seq | apply dwp_region | apply ops_nil | (apply ops_plain; (· exact rfl)) | (apply op_call; (· exact rfl); (· exact rfl); (· exact rfl); (refine (index99x h).mono ?_; rintro r H' ⟨rfl, rfl⟩)) | (apply op_at; (· exact rfl)) | apply dwp_ret | (refine ⟨_, rfl, ?_⟩) | fail)
  exact ⟨rfl, rfl⟩
theorem may69x {s : DV} {H : DH} (h : Times H s) : CallWp Tryd.prog X1 69 [s] H (fun r H' => r = .bool true ∧ H' = H) := by
  refine enter rfl Tryd.func69 rfl Tryd.ntmps69 rfl ?_
  dsimp only [List.cons_append, List.nil_append, List.length_cons, List.length_nil, List.replicate_succ, List.replicate_zero, Nat.reduceAdd, Nat.reduceSub]
  repeat' (first | dsimp only [putD, DV.cells, DH.new_next, DH.set_next, List.length_cons, List.length_nil, Nat.reduceAdd, List.set_cons_zero, List.set_cons_succ, getD_zero, getD_succ, fieldAt_zero, fieldAt_succ, thenD, blockD, retR] | apply dwp_seq | apply dwp_region | apply ops_nil | (apply ops_plain; (· exact rfl)) | (apply op_call; (· exact rfl); (· exact rfl); (· exact rfl); (refine (has88x h).mono ?_; rintro r H' ⟨rfl, rfl⟩)) | (apply op_at; (· exact rfl)) | apply dwp_ret | (refine ⟨_, rfl, ?_⟩) | fail)
  exact ⟨rfl, rfl⟩
end Go.Det.C

/- Times are read: what they are. -/
namespace Go.Det.C
open Go Go.Det Go.Proofs
set_option maxRecDepth 4000
set_option maxHeartbeats 4000000
set_option linter.unusedVariables false
set_option linter.unusedSimpArgs false
theorem wrapB {n : Int} (h : 0 ≤ n ∧ n < 256) : IntKind.u8.wrap n = n := by
  unfold IntKind.wrap
  simp only [IntKind.signed, IntKind.bits]
  simp
  omega
end Go.Det.C

/- A number's text. -/
namespace Go.Det.C
open Go Go.Det Go.Proofs
set_option maxRecDepth 4000
set_option maxHeartbeats 4000000
set_option linter.unusedVariables false
set_option linter.unusedSimpArgs false
/-- A number's digits. -/
def decN (n : Nat) : List UInt8 := if h : n < 10 then [UInt8.ofNat (48 + n)] else decN (n / 10) ++ [UInt8.ofNat (48 + n % 10)]
termination_by n
decreasing_by omega
theorem decN_lt {n : Nat} (h : n < 10) : decN n = [UInt8.ofNat (48 + n)] := by rw [decN, dif_pos h]
theorem decN_ge {n : Nat} (h : ¬ n < 10) : decN n = decN (n / 10) ++ [UInt8.ofNat (48 + n % 10)] := by conv => lhs; rw [decN]; rw [dif_neg h]
def decF (n : Int) : List UInt8 := if n < 0 then 45 :: decN n.natAbs else decN n.natAbs
theorem ofNat_dig {n : Nat} (h : n < 10) : (UInt8.ofNat (48 + n)).toNat = 48 + n ∧ isDig (UInt8.ofNat (48 + n)) = true := by
  have e : (UInt8.ofNat (48 + n)).toNat = 48 + n := by rw [UInt8.toNat_ofNat']; omega
  refine ⟨e, ?_⟩
  unfold isDig
  simp only [Bool.and_eq_true, decide_eq_true_eq, UInt8.le_iff_toNat_le, e]
  have h3 : (48 : UInt8).toNat = 48 := rfl
  have h4 : (57 : UInt8).toNat = 57 := rfl
  omega
theorem decN_len : ∀ (k n : Nat), n < 10 ^ (k + 1) → (decN n).length ≤ k + 1 := by
  intro k
  induction k with
  | zero =>
    intro n hn
    rw [decN_lt (by simpa using hn)]
    exact Nat.le_refl _
  | succ k ih =>
    intro n hn
    by_cases h : n < 10
    · rw [decN_lt h]; simp
    · rw [decN_ge h, List.length_append]
      have := ih (n / 10) (by rw [Nat.pow_succ] at hn; omega)
      simp only [List.length_cons, List.length_nil]
      omega
section
variable {A H : DH} {bs : List (Nat × DObj)} {fs : List (DH → Prop)} {K : DV → DH → Prop}
end
end Go.Det.C
