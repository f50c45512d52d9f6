/- Code that ranges over a map: whatever order the entries come in. -/
import Derived.Maps.RangeRun
import Derived.Test.YtpgobchpnjgbdaaKOrd11
namespace Go.Det
set_option linter.unusedVariables false
set_option linter.unusedSimpArgs false
open Go.ChangeMaps (setBlock)
section
variable {P : Program} {X : Ext}
/-- Whatever is drawn: a code comes to an exit of which Q holds. -/
structure DW (P : Program) (c : Code) (st : DSt) (Q : DExit → DSt → Prop) : Prop where
  wp : ∀ (ρ : Rho) (a : Act) (w : World) (R : Exit → Act → World → Prop), EnvR ρ st.env a.tmps → a.defers = [] → Agree ρ st.H w →
      (∀ ρ' a' w' e st', Q e st' → EnvR ρ' st'.env a'.tmps → a'.defers = [] → Moves ρ st.H w ρ' st'.H w' → R e.toExit a' w') → c.wp P R a w
theorem DW.of (hX : ProgOk P X) {c : Code} (hc : CodeOk P c) {st : DSt} {Q : DExit → DSt → Prop} (h : Dwp P X c st Q) : DW P c st Q := by
  obtain ⟨k, e, st', h1, h2⟩ := h.ex
  exact ⟨fun ρ a w R he hd ha hq => exec_sound hX.mix (callD_sound hX k) k c hc st e st' h1 ρ a w R he hd ha fun ρ' a' w' g1 g2 g3 => hq ρ' a' w' e st' h2 g1 g2 g3⟩
theorem DW.mono {c : Code} {st : DSt} {Q Q' : DExit → DSt → Prop} (h : DW P c st Q) (k : ∀ e st', Q e st' → Q' e st') : DW P c st Q' :=
  ⟨fun ρ a w R he hd ha hq => h.wp ρ a w R he hd ha fun ρ' a' w' e st' h1 => hq ρ' a' w' e st' (k e st' h1)⟩
theorem dw_seq {x y : Code} {st : DSt} {Q : DExit → DSt → Prop} (h : DW P x st (thenD (fun st => DW P y st Q) Q)) : DW P (.seq x y) st Q :=
  ⟨fun ρ a w R he hd ha hq => wp_seq (h.wp ρ a w _ he hd ha fun ρ1 a1 w1 e st1 h1 g1 g2 g3 => by
    cases e with
    | normal => exact h1.wp ρ1 a1 w1 R g1 g2 g3.agree fun ρ2 a2 w2 e2 st2 k1 k2 k3 k4 => hq ρ2 a2 w2 e2 st2 k1 k2 k3 (g3.trans k4)
    | exit id => exact hq ρ1 a1 w1 _ st1 h1 g1 g2 g3
    | ret => exact hq ρ1 a1 w1 _ st1 h1 g1 g2 g3)⟩
theorem dw_cond {c : Operand} {x y : Code} {st : DSt} {Q : DExit → DSt → Prop} {t : Bool} (hc : evalO st.env c = some (.bool t)) (ht : t = true → DW P x st Q) (hf : t = false → DW P y st Q) : DW P (.cond c x y) st Q :=
  ⟨fun ρ a w R he hd ha hq => by
    have hv := evalO_sound he _ _ hc
    simp only [VR] at hv
    refine wp_cond (t := t) hv ?_
    cases t with
    | true => exact (ht rfl).wp ρ a w R he hd ha hq
    | false => exact (hf rfl).wp ρ a w R he hd ha hq⟩
theorem dw_block {id : Nat} {c : Code} {st : DSt} {Q : DExit → DSt → Prop} (h : DW P c st (blockD id Q)) : DW P (.block id c) st Q :=
  ⟨fun ρ a w R he hd ha hq => wp_block (h.wp ρ a w _ he hd ha fun ρ1 a1 w1 e st1 h1 g1 g2 g3 => by
    cases e with
    | normal => exact hq ρ1 a1 w1 _ st1 h1 g1 g2 g3
    | ret => exact hq ρ1 a1 w1 _ st1 h1 g1 g2 g3
    | exit id' =>
      simp only [blockD] at h1
      simp only [DExit.toExit, Exit.inBlock]
      split at h1
      · rename_i hid; rw [if_pos hid]; exact hq ρ1 a1 w1 _ st1 h1 g1 g2 g3
      · rename_i hid; rw [if_neg hid]; exact hq ρ1 a1 w1 _ st1 h1 g1 g2 g3)⟩
theorem dw_skip {st : DSt} {Q : DExit → DSt → Prop} (h : Q .normal st) : DW P .skip st Q := ⟨fun ρ a w R he hd ha hq => wp_skip (hq ρ a w .normal st h he hd (Moves.refl ha))⟩
theorem dw_exit {id : Nat} {st : DSt} {Q : DExit → DSt → Prop} (h : Q (.exit id) st) : DW P (.exit id) st Q := ⟨fun ρ a w R he hd ha hq => wp_exit (hq ρ a w (.exit id) st h he hd (Moves.refl ha))⟩
theorem dw_ret {st : DSt} {Q : DExit → DSt → Prop} (h : Q .ret st) : DW P .ret st Q := ⟨fun ρ a w R he hd ha hq => wp_ret (hq ρ a w .ret st h he hd (Moves.refl ha))⟩
/-- A loop, with what holds ahead of each round and what each round lessens. -/
theorem dw_loop {c : Code} {st : DSt} {Q : DExit → DSt → Prop} (I : DSt → Prop) (μ : DSt → Nat) (h0 : I st) (hstep : ∀ st, I st → DW P c st (thenD (fun st' => I st' ∧ μ st' < μ st) Q)) : DW P (.loop c) st Q := by
  have key : ∀ (n : Nat) (st : DSt), μ st < n → I st → ∀ (ρ : Rho) (a : Act) (w : World) (R : Exit → Act → World → Prop), EnvR ρ st.env a.tmps → a.defers = [] → Agree ρ st.H w →
      (∀ ρ' a' w' e st', Q e st' → EnvR ρ' st'.env a'.tmps → a'.defers = [] → Moves ρ st.H w ρ' st'.H w' → R e.toExit a' w') → Code.rounds P c R n a w := by
    intro n
    induction n with
    | zero => intro st h; omega
    | succ n ih =>
      intro st hn hI ρ a w R he hd ha hq
      rw [rounds_succ]
      refine (hstep st hI).wp ρ a w _ he hd ha fun ρ1 a1 w1 e st1 h1 g1 g2 g3 => ?_
      cases e with
      | normal => exact ih st1 (by have := h1.2; omega) h1.1 ρ1 a1 w1 R g1 g2 g3.agree fun ρ2 a2 w2 e2 st2 k1 k2 k3 k4 => hq ρ2 a2 w2 e2 st2 k1 k2 k3 (g3.trans k4)
      | exit id => exact hq ρ1 a1 w1 _ st1 h1 g1 g2 g3
      | ret => exact hq ρ1 a1 w1 _ st1 h1 g1 g2 g3
  exact ⟨fun ρ a w R he hd ha hq => wp_loop_rounds (μ st + 1) (key (μ st + 1) st (Nat.lt_succ_self _) h0 ρ a w R he hd ha hq)⟩
theorem dw_region (hX : ProgOk P X) {id : Nat} {ops : Array Oper} {st : DSt} {Q : DExit → DSt → Prop} (h : OpsWp P X ops ops.toList st (fun st' => Q .normal st')) : DW P (.region id ops false) st Q := DW.of hX (c := .region id ops false) trivial (dwp_region h)
theorem dw_cond_t {c : Operand} {x y : Code} {st : DSt} {Q : DExit → DSt → Prop} {t : Bool} (hc : evalO st.env c = some (.bool t)) (ht : t = true) (h : DW P x st Q) : DW P (.cond c x y) st Q :=
  dw_cond hc (fun _ => h) (fun hf => by rw [ht] at hf; cases hf)
theorem dw_cond_f {c : Operand} {x y : Code} {st : DSt} {Q : DExit → DSt → Prop} {t : Bool} (hc : evalO st.env c = some (.bool t)) (ht : t = false) (h : DW P y st Q) : DW P (.cond c x y) st Q :=
  dw_cond hc (fun hf => by rw [ht] at hf; cases hf) (fun _ => h)
/-- A function's text comes to an exit of which Q holds. -/
def DWF (P : Program) (fn : Func) (st : DSt) (Q : DExit → DSt → Prop) : Prop := ∃ c, fn.body = some c ∧ DW P c st Q
theorem dw_enter {fn : Func} {c : Code} {st : DSt} {Q : DExit → DSt → Prop} (hb : fn.body = some c) (h : DW P c st Q) : DWF P fn st Q := ⟨c, hb, h⟩
/-! ### operations that the reading does not tell -/
theorem ops_step {ops : Array Oper} {Q : Exit → Act → World → Prop} {i r : Nat} {o : Oper} {a : Act} {w : World} (hl : ops[i]? = some o) (hg : o.guard = none) (hk : o.wp P a w (fun a' w' => wpOps P ops Q (List.range' (i + 1) r) a' w') Q) : wpOps P ops Q (List.range' i (r + 1)) a w := by
  simp only [List.range'_succ, wpOps, hl]
  rw [if_pos (by unfold Region.wanted; rw [hg])]
  exact .inl hk
theorem value_wp {o : Oper} {a : Act} {w w' : World} {next : Act → World → Prop} {Q : Exit → Act → World → Prop} {v : Value} (e : (execOp a.eval o).run P w = .ok (.value v) w') (hk : next (a.put o.dst v) w') : o.wp P a w next Q := by
  unfold Oper.wp
  rw [e]
  exact hk
theorem exec_move {o : Oper} {x : Operand} (h : o.op = .move x) (a : Act) (w : World) : (execOp a.eval o).run P w = .ok (.value (a.eval x)) w := by simp [execOp, h]
theorem exec_range {o : Oper} {t : TypeId} {x : Operand} (h : o.op = .range t x) {a : Act} {w w' : World} {v : Value} (hr : (Instr.range t (a.eval x)).run P w = .ok v w') : (execOp a.eval o).run P w = .ok (.value v) w' := by simp [execOp, h, hr, Sem.run_bind]
theorem exec_next {o : Oper} {x : Operand} {s : Bool} (h : o.op = .next x s) {a : Act} {w w' : World} {v : Value} (hr : (Instr.next (a.eval x) s o.type).run P w = .ok v w') : (execOp a.eval o).run P w = .ok (.value v) w' := by simp [execOp, h, hr, Sem.run_bind]
theorem exec_entry {o : Oper} {x : Operand} (h : o.op = .entry x) {a : Act} {w w' : World} {v : Value} (hr : (Instr.entry (a.eval x)).run P w = .ok v w') : (execOp a.eval o).run P w = .ok (.value v) w' := by simp [execOp, h, hr, Sem.run_bind]
theorem exec_extract {o : Oper} {x : Operand} {i : Nat} (h : o.op = .extract x i) {a : Act} {w : World} {vs : Array Value} {v : Value} (hx : a.eval x = .tuple vs) (hv : vs[i]? = some v) : (execOp a.eval o).run P w = .ok (.value v) w := by
  simp [execOp, h, hx, Instr.extract, hv, Sem.run_bind]
end
end Go.Det

/- Ranging over a map: the loop, whatever order its entries come in. -/
namespace Go.Det
set_option linter.unusedVariables false
set_option linter.unusedSimpArgs false
open Go.ChangeMaps (setBlock)
theorem heapOld (w : World) (o : Obj) {r : Nat} (h : r < w.heap.size) : (w.alloc o).heap[r]? = w.heap[r]? := by
  show (w.heap.push o)[r]? = _
  rw [Array.getElem?_push, if_neg (by omega)]
/-- While a map is ranged over it is not told; a place leads to the iterator, of which nothing is told. -/
def hide (H : DH) (m : Nat) : DH := { next := H.next + 1, obj := fun l => if l = m then none else H.obj l }
theorem EntsR.mem {ρ : Rho} {xs : List (DV × DV)} {es : List MapEntry} (h : EntsR ρ xs es) : ∀ e ∈ es, ∃ x ∈ xs, EntR ρ x e := by
  induction h with
  | nil => intro e he; cases he
  | cons a _ ih =>
    intro e he
    rcases List.mem_cons.mp he with rfl | he
    · exact ⟨_, List.mem_cons_self, a⟩
    · obtain ⟨x, hx, hr⟩ := ih e he
      exact ⟨x, List.mem_cons_of_mem _ hx, hr⟩
/-- A loop over a map under way. -/
structure Ranges (ρ0 : Rho) (H0 : DH) (w0 : World) (m bm clock : Nat) (ents : Array MapEntry) (seen : Array Nat) (ρ : Rho) (H : DH) (w : World) : Prop where
  ag : Agree ρ H w
  le : ρ0.le ρ
  itp : ρ H0.next = some ⟨w0.heap.size, 0, 0, 0⟩
  ab : Above (hide H0 m) H
  os : w.os = w0.os
  tape : w.tape = w0.tape
  output : w.output = w0.output
  drawn : w0.drawn ≤ w.drawn
  size : w0.heap.size < w.heap.size
  same : ∀ b, b < w0.heap.size → ¬ Own ρ0 (hide H0 m) b → w.heap[b]? = w0.heap[b]?
  own : ∀ b, Own ρ H b → Own ρ0 (hide H0 m) b ∨ w0.heap.size ≤ b
  fresh : ∀ l pl, ρ l = some pl → ρ0 l = some pl ∨ w0.heap.size ≤ pl.block ∨ Own ρ0 (hide H0 m) pl.block
  far : ∀ l pl, ρ l = some pl → H0.next < l → pl.block ≠ w0.heap.size ∧ pl.block ≠ bm
  it : w.heap[w0.heap.size]? = some (.mapIter (some bm) clock seen clock)
  mp : w.heap[bm]? = some (.map ents clock)
section
variable {P : Program} {X : Ext} {ρ0 ρ : Rho} {H0 H : DH} {w0 w : World} {m bm clock : Nat} {ents : Array MapEntry} {seen : Array Nat} {es : List (DV × DV)} {plm : Pl}
theorem own_hide {b : Nat} (h : Own ρ0 (hide H0 m) b) : Own ρ0 H0 b := by
  obtain ⟨l, o, pl, h1, h2, h3, h4⟩ := h
  simp only [hide] at h1
  split at h1
  · cases h1
  · exact ⟨l, o, pl, h1, h2, h3, h4⟩
theorem Ranges.nl (h : Ranges ρ0 H0 w0 m bm clock ents seen ρ H w) (ha0 : Agree ρ0 H0 w0) (hm : H0.obj m = some (.map es)) (hp : ρ0 m = some plm) (hbm : plm.block = bm) {l : Nat} {o : DObj} {pl : Pl} (hl : H.obj l = some o) (hpl : ρ l = some pl) : pl.block ≠ w0.heap.size ∧ pl.block ≠ bm := by
  rcases Nat.lt_or_ge H0.next l with hlt | hge
  · exact h.far l pl hpl hlt
  · have e := h.ab.same l (show l < H0.next + 1 by omega)
    rw [hl] at e
    simp only [hide] at e
    split at e
    · cases e
    · rename_i hne
      obtain ⟨pl0, h1, h2⟩ := ha0.obj l o e.symm
      have := h.le _ _ h1
      rw [hpl] at this
      cases this
      refine ⟨Nat.ne_of_lt (ha0.lies l pl h1), fun e2 => ?_⟩
      exact ha0.apart m l _ o plm pl (fun e => hne e.symm) hm e.symm rfl hp h1 (by rw [hbm, e2])
theorem Ranges.step (h : Ranges ρ0 H0 w0 m bm clock ents seen ρ H w) (ha0 : Agree ρ0 H0 w0) (hm : H0.obj m = some (.map es)) (hp : ρ0 m = some plm) (hbm : plm.block = bm) {w1 : World} (hw : w1 = w ∨ w1 = w.drew) (seen' : Array Nat) :
    Ranges ρ0 H0 w0 m bm clock ents seen' ρ H (setBlock w1 w0.heap.size (.mapIter (some bm) clock seen' clock)) := by
  have hh : w1.heap = w.heap := by rcases hw with rfl | rfl <;> rfl
  have e1 : w1.os = w.os ∧ w1.tape = w.tape ∧ w1.output = w.output ∧ w.drawn ≤ w1.drawn := by
    rcases hw with rfl | rfl
    · exact ⟨rfl, rfl, rfl, Nat.le_refl _⟩
    · exact ⟨rfl, rfl, rfl, Nat.le_succ _⟩
  have hsz : (setBlock w1 w0.heap.size (.mapIter (some bm) clock seen' clock)).heap.size = w.heap.size := by simp [setBlock, hh]
  have hget : ∀ k, k ≠ w0.heap.size → (setBlock w1 w0.heap.size (.mapIter (some bm) clock seen' clock)).heap[k]? = w.heap[k]? := by
    intro k hk
    simp only [setBlock, hh]
    rw [Array.getElem?_setIfInBounds, if_neg (fun e => hk e.symm)]
  have hbms : bm < w0.heap.size := by rw [← hbm]; exact ha0.lies m plm hp
  refine { ag := ⟨h.ag.low, fun l pl hl => by rw [hsz]; exact h.ag.lies l pl hl, fun l o hl => ?_, h.ag.apart⟩, le := h.le, itp := h.itp, ab := h.ab, os := e1.1.trans h.os, tape := e1.2.1.trans h.tape, output := e1.2.2.1.trans h.output, drawn := Nat.le_trans h.drawn e1.2.2.2, size := by rw [hsz]; exact h.size, same := fun b hb hn => by rw [hget b (Nat.ne_of_lt hb)]; exact h.same b hb hn, own := h.own, fresh := h.fresh, far := h.far, it := ?_, mp := by rw [hget bm (Nat.ne_of_lt hbms)]; exact h.mp }
  · obtain ⟨pl, h1, h2⟩ := h.ag.obj l o hl
    refine ⟨pl, h1, ?_⟩
    rw [hget _ (h.nl ha0 hm hp hbm hl h1).1]
    exact h2
  · have := h.size
    simp only [setBlock, hh]
    rw [Array.getElem?_setIfInBounds, if_pos rfl, if_pos this]
theorem Ranges.moves (h : Ranges ρ0 H0 w0 m bm clock ents seen ρ H w) (ha0 : Agree ρ0 H0 w0) (hm : H0.obj m = some (.map es)) (hp : ρ0 m = some plm) (hbm : plm.block = bm) {ρ' : Rho} {H' : DH} {w' : World} (k : Moves ρ H w ρ' H' w') (hab : Above (hide H0 m) H') :
    Ranges ρ0 H0 w0 m bm clock ents seen ρ' H' w' := by
  have hbms : bm < w0.heap.size := by rw [← hbm]; exact ha0.lies m plm hp
  have nown : ∀ b, (b = w0.heap.size ∨ b = bm) → ¬ Own ρ H b := by
    rintro b hb ⟨l, o, pl, h1, h2, h3, h4⟩
    obtain ⟨n1, n2⟩ := h.nl ha0 hm hp hbm h1 h3
    rcases hb with rfl | rfl
    · exact n1 h4
    · exact n2 h4
  have hsz := h.size
  refine { ag := k.agree, le := Rho.le_trans h.le k.le, itp := k.le _ _ h.itp, ab := hab, os := k.os.trans h.os, tape := k.tape.trans h.tape, output := k.output.trans h.output, drawn := Nat.le_trans h.drawn k.drawn, size := Nat.lt_of_lt_of_le h.size k.size, same := fun b hb hn => ?_, own := fun b hb => ?_, fresh := fun l pl hl => ?_, far := fun l pl hl hlt => ?_, it := (k.same _ h.size (nown _ (.inl rfl))).trans h.it, mp := (k.same _ (by omega) (nown _ (.inr rfl))).trans h.mp }
  · refine (k.same b (by omega) fun ho => ?_).trans (h.same b hb hn)
    rcases h.own b ho with h1 | h1
    · exact hn h1
    · omega
  · rcases k.own b hb with h1 | h1
    · exact h.own b h1
    · exact .inr (by omega)
  · rcases k.fresh l pl hl with h1 | h1 | h1
    · exact h.fresh l pl h1
    · exact .inr (.inl (by omega))
    · rcases h.own _ h1 with h2 | h2
      · exact .inr (.inr h2)
      · exact .inr (.inl h2)
  · rcases k.fresh l pl hl with h1 | h1 | h1
    · exact h.far l pl h1 hlt
    · exact ⟨by omega, by omega⟩
    · obtain ⟨l2, o2, pl2, g1, g2, g3, g4⟩ := h1
      have := h.nl ha0 hm hp hbm g1 g3
      rw [← g4]; exact this
theorem Ranges.done (h : Ranges ρ0 H0 w0 m bm clock ents seen ρ H w) (ha0 : Agree ρ0 H0 w0) (hm : H0.obj m = some (.map es)) (hp : ρ0 m = some plm) (hbm : plm.block = bm) (hob : ObjR ρ0 plm (some (.map ents clock)) (.map es)) :
    Moves ρ0 H0 w0 ρ (H.set m (some (.map es))) w := by
  have hml : m < H0.next := ha0.low m plm hp
  refine { le := h.le, agree := ⟨h.ag.low, h.ag.lies, fun l o hl => ?_, fun l l' o o' pl pl' hne hl hl' hro hpl hpl' => ?_⟩, os := h.os, tape := h.tape, output := h.output, drawn := h.drawn, size := Nat.le_of_lt h.size, same := fun b hb hn => h.same b hb fun ho => hn (own_hide ho), own := fun b hb => ?_, fresh := fun l pl hl => (h.fresh l pl hl).elim .inl fun h1 => .inr (h1.elim .inl fun h2 => .inr (own_hide h2)) }
  · simp only [DH.set] at hl
    split at hl
    · rename_i e
      subst e
      cases hl
      refine ⟨plm, h.le _ _ hp, ?_⟩
      rw [hbm, h.mp]
      exact hob.mono h.le
    · exact h.ag.obj l o hl
  · simp only [DH.set] at hl hl'
    split at hl
    · rename_i e
      subst e
      have := h.le _ _ hp
      rw [hpl] at this; cases this
      rw [if_neg (fun e => hne e.symm)] at hl'
      rw [hbm]
      exact fun e => (h.nl ha0 hm hp hbm hl' hpl').2 e.symm
    · split at hl'
      · rename_i e
        subst e
        have := h.le _ _ hp
        rw [hpl'] at this; cases this
        rw [hbm]
        exact (h.nl ha0 hm hp hbm hl hpl).2
      · exact h.ag.apart l l' o o' pl pl' hne hl hl' hro hpl hpl'
  · obtain ⟨l, o, pl, h1, h2, h3, h4⟩ := hb
    simp only [DH.set] at h1
    split at h1
    · rename_i e
      subst e
      have := h.le _ _ hp
      rw [h3] at this; cases this
      exact .inl ⟨l, _, plm, hm, rfl, hp, h4⟩
    · rcases h.own b ⟨l, o, pl, h1, h2, h3, h4⟩ with h5 | h5
      · exact .inl (own_hide h5)
      · exact .inr h5
theorem ranges_start (ha0 : Agree ρ0 H0 w0) (hm : H0.obj m = some (.map es)) (hp : ρ0 m = some plm) (hbm : plm.block = bm) (hb : w0.heap[bm]? = some (.map ents clock)) :
    Ranges ρ0 H0 w0 m bm clock ents #[] (ρ0.add H0.next ⟨w0.heap.size, 0, 0, 0⟩) (hide H0 m) (w0.alloc (.mapIter (some bm) clock #[] clock)) := by
  have hbms : bm < w0.heap.size := by rw [← hbm]; exact ha0.lies m plm hp
  have hle := Rho.le_add ha0 ⟨w0.heap.size, 0, 0, 0⟩
  have hsz : (w0.alloc (.mapIter (some bm) clock #[] clock)).heap.size = w0.heap.size + 1 := by
    show (w0.heap.push _).size = _
    simp
  refine { ag := ⟨fun l pl hl => ?_, fun l pl hl => ?_, fun l o hl => ?_, fun l l' o o' pl pl' hne hl hl' hro hpl hpl' => ?_⟩, le := hle, itp := Rho.add_same _ _ _, ab := Above.refl _, os := rfl, tape := rfl, output := rfl, drawn := Nat.le_refl _, size := by rw [hsz]; exact Nat.lt_succ_self _, same := fun b hb2 _ => heapOld w0 _ hb2, own := fun b hb2 => ?_, fresh := fun l pl hl => ?_, far := fun l pl hl hlt => ?_, it := heap_alloc_new w0 _, mp := (heapOld w0 _ hbms).trans hb }
  · show l < H0.next + 1
    unfold Rho.add at hl
    split at hl
    · omega
    · have := ha0.low l pl hl; omega
  · rw [hsz]
    unfold Rho.add at hl
    split at hl
    · cases hl; exact Nat.lt_succ_self _
    · have := ha0.lies l pl hl; omega
  · simp only [hide] at hl
    split at hl
    · cases hl
    · obtain ⟨pl, h1, h2⟩ := ha0.obj l o hl
      refine ⟨pl, hle _ _ h1, ?_⟩
      rw [heapOld w0 _ (ha0.lies l pl h1)]
      exact h2.mono hle
  · simp only [hide] at hl hl'
    split at hl
    · cases hl
    · split at hl'
      · cases hl'
      · obtain ⟨q, h1, _⟩ := ha0.obj l o hl
        obtain ⟨q', h1', _⟩ := ha0.obj l' o' hl'
        have e1 := hle _ _ h1
        have e2 := hle _ _ h1'
        rw [hpl] at e1; rw [hpl'] at e2
        cases e1; cases e2
        exact ha0.apart l l' o o' pl pl' hne hl hl' hro h1 h1'
  · obtain ⟨l, o, pl, h1, h2, h3, h4⟩ := hb2
    have h1' := h1
    simp only [hide] at h1'
    split at h1'
    · cases h1'
    · obtain ⟨q, g1, _⟩ := ha0.obj l o h1'
      have e1 := hle _ _ g1
      rw [h3] at e1; cases e1
      exact .inl ⟨l, o, pl, h1, h2, g1, h4⟩
  · unfold Rho.add at hl
    split at hl
    · cases hl; exact .inr (.inl (Nat.le_refl _))
    · exact .inl hl
  · unfold Rho.add at hl
    split at hl
    · omega
    · have := ha0.low l pl hl; omega
end
end Go.Det

/- Ranging over a map: the rule. -/
namespace Go.Det
set_option linter.unusedVariables false
set_option linter.unusedSimpArgs false
open Go.ChangeMaps (setBlock)
section
variable {P : Program} {X : Ext}
theorem Above.unhide {H H1 : DH} {m : Nat} {o : DObj} (h : Above (hide H m) H1) (hm : H.obj m = some o) : Above H (H1.set m (some o)) := by
  refine ⟨Nat.le_trans (Nat.le_succ _) h.le, fun l hl => ?_⟩
  simp only [DH.set]
  split
  · rename_i e; subst e; exact hm.symm
  · rename_i e
    have := h.same l (Nat.lt_succ_of_lt hl)
    simp only [hide, if_neg e] at this
    exact this
theorem Above.hidden {H H1 : DH} {m l : Nat} {x : Option DObj} (h : Above (hide H m) H1) (hl : l < H.next) (hne : l ≠ m) (hx : H.obj l = x) : H1.obj l = x := by
  have := h.same l (Nat.lt_succ_of_lt hl)
  simp only [hide, if_neg hne] at this
  exact this.trans hx
theorem getD_set_eq {env : List DV} {t : Nat} {d : DV} (h : t < env.length) : (env.set t d).getD t undefD = d := by
  simp [List.getD, h]
theorem getD_set_ne {env : List DV} {t u : Nat} {d : DV} (h : t ≠ u) : (env.set t d).getD u undefD = env.getD u undefD := by
  simp [List.getD, List.getElem?_set, h]
/-- A loop over a map. While it lasts the map is not told (hide); whatever entry comes, a round leads from I to I. -/
theorem dw_range_map (hX : ProgOk P X) {r1 r2 b3 b4 r3 : Nat} {o1 o2 o3 o4 e0 : Oper} {ops : Array Oper} {tail : List Oper} {rest : Code} {tm t1 t2 t3 t4 t5 : Nat} {mt kt vt : TypeId}
    (h1 : o1.op = .move (.tmp tm)) (g1 : o1.guard = none) (d1 : o1.dst = some t1)
    (h2 : o2.op = .range mt (.tmp t1)) (g2 : o2.guard = none) (d2 : o2.dst = some t2)
    (h3 : o3.op = .next (.tmp t2) false) (g3 : o3.guard = none) (d3 : o3.dst = some t3)
    (h4 : o4.op = .extract (.tmp t3) 0) (g4 : o4.guard = none) (d4 : o4.dst = some t4)
    (hops : ops.toList = e0 :: tail) (h5 : e0.op = .entry (.tmp t2)) (g5 : e0.guard = none) (d5 : e0.dst = some t5)
    (hmt : P.underlying mt = some (.map kt vt)) (hc : CodeOk P rest)
    {st : DSt} {m n : Nat} {es : List (DV × DV)} (hn : st.env.length = n) (l1 : t1 < n) (l2 : t2 < n) (l3 : t3 < n) (l4 : t4 < n) (l5 : t5 < n) (n23 : t3 ≠ t2) (n24 : t4 ≠ t2)
    (hm : st.env.getD tm undefD = .map (some m)) (hob : st.H.obj m = some (.map es))
    {Q : DExit → DSt → Prop} (I : DSt → Prop)
    (hI : ∀ st1, I st1 → st1.env.length = n ∧ st1.env.getD t2 undefD = .ptr (some (st.H.next, 0, 0)) ∧ Above (hide st.H m) st1.H)
    (h0 : I ⟨(st.env.set t1 (.map (some m))).set t2 (.ptr (some (st.H.next, 0, 0))), hide st.H m⟩)
    (hround : ∀ st1 k v, I st1 → (k, v) ∈ es → OpsWp P X ops tail ⟨((st1.env.set t3 (.tuple [.bool true, k, v])).set t4 (.bool true)).set t5 (.tuple [k, v]), st1.H⟩ (fun st2 => Dwp P X rest st2 (fun e st3 => (e = .normal ∨ e = .exit b4) ∧ I st3)))
    (hdone : ∀ st1, I st1 → Q .normal ⟨(st1.env.set t3 (.tuple [.bool false])).set t4 (.bool false), st1.H.set m (some (.map es))⟩) :
    DW P (.seq (.region r1 #[o1, o2] false) (.block b3 (.loop (.seq (.region r2 #[o3, o4] false) (.seq (.cond (.tmp t4) .skip (.exit b3)) (.block b4 (.seq (.region r3 ops false) rest))))))) st Q := by
  refine ⟨fun ρ0 a w0 R he hd ha0 hq => ?_⟩
  -- where the map lies
  obtain ⟨plm, hp, hobj⟩ := ha0.obj m _ hob
  obtain ⟨ents, clock, hb, hes, hst⟩ := hobj
  have hvm := he.get tm
  rw [hm] at hvm
  simp only [VR] at hvm
  obtain ⟨pl', hp', hvm⟩ := hvm
  rw [hp] at hp'; cases hp'
  have hobr : ObjR ρ0 plm (some (.map ents clock)) (.map es) := ⟨ents, clock, rfl, hes, hst⟩
  -- the map is named, the iterator made
  refine wp_seq (wp_region ?_)
  show wpOps P _ _ (List.range 2) a w0
  rw [List.range_eq_range']
  refine ops_step (o := o1) rfl g1 (value_wp (exec_move h1 a w0) ?_)
  rw [d1]
  have hts : a.tmps.size = n := by have := VRs.length he; rw [hn] at this; simpa using this
  have he1 : EnvR ρ0 (st.env.set t1 (.map (some m))) (a.put (some t1) (a.eval (.tmp tm))).tmps := he.put (by
    have : a.eval (.tmp tm) = .map (some plm.block) := hvm
    rw [this]
    simp only [VR]
    exact ⟨plm, hp, rfl⟩) t1
  have hev1 : (a.put (some t1) (a.eval (.tmp tm))).eval (.tmp t1) = .map (some plm.block) := by
    have := he1.get t1
    rw [getD_set_eq (by rw [hn]; exact l1)] at this
    simp only [VR] at this
    obtain ⟨q, hq1, hq2⟩ := this
    rw [hp] at hq1; cases hq1
    exact hq2
  refine ops_step (o := o2) rfl g2 (value_wp (exec_range h2 (w' := w0.alloc (.mapIter (some plm.block) clock #[] clock)) (v := .pointer (some ⟨w0.heap.size, 0, none⟩)) (by rw [hev1]; exact run_range_map w0 mt kt vt plm.block ents clock hmt hb)) ?_)
  rw [d2]
  show Exit.then _ _ .normal _ _
  have hs0 := ranges_start ha0 hob hp rfl hb
  -- the loop
  refine wp_block ?_
  have key : ∀ (k : Nat) (seen : Array Nat) (ρ : Rho) (a : Act) (w : World) (st1 : DSt), (leftOf ents seen).size < k → I st1 → EnvR ρ st1.env a.tmps → a.defers = [] → Ranges ρ0 st.H w0 m plm.block clock ents seen ρ st1.H w →
      Code.rounds P (.seq (.region r2 #[o3, o4] false) (.seq (.cond (.tmp t4) .skip (.exit b3)) (.block b4 (.seq (.region r3 ops false) rest)))) (Exit.inBlock b3 R) k a w := by
    intro k
    induction k with
    | zero => intro seen ρ a w st1 h; omega
    | succ k ih =>
      intro seen ρ a w st1 hk hIs he hd hR
      obtain ⟨hlen, hit, hab⟩ := hI st1 hIs
      rw [rounds_succ]
      refine wp_seq (wp_region ?_)
      show wpOps P _ _ (List.range 2) a w
      rw [List.range_eq_range']
      have hve : a.eval (.tmp t2) = .pointer (some ⟨w0.heap.size, 0, none⟩) := by
        have := he.get t2
        rw [hit] at this
        simp only [VR] at this
        obtain ⟨q, hq1, hq2⟩ := this
        rw [hR.itp] at hq1; cases hq1
        exact hq2
      rcases run_next_at (P := P) w o3.type w0.heap.size plm.block clock clock seen ents clock hR.it hR.mp (fun x hx => hst.old x hx) (Nat.le_refl _) with ⟨hz, hrun⟩ | ⟨e, hel, w1, hw1, hrun⟩
      · -- nothing is left
        refine ops_step (o := o3) rfl g3 (value_wp (exec_next h3 (by rw [hve]; exact hrun)) ?_)
        rw [d3]
        have he3 : EnvR ρ (st1.env.set t3 (.tuple [.bool false])) (a.put (some t3) (.tuple #[.bool false])).tmps := he.put (by simp only [VR]; exact ⟨_, rfl, .one (by simp [VR])⟩) t3
        have hv3 : (a.put (some t3) (.tuple #[.bool false])).eval (.tmp t3) = .tuple #[.bool false] := by
          have h := he3.get t3
          rw [getD_set_eq (by rw [hlen]; exact l3)] at h
          simp only [VR, VRs] at h
          obtain ⟨vs, h6, v, r, h7, h8, h9⟩ := h
          have : vs = #[.bool false] := by
            apply Array.toList_inj.mp
            rw [h7, h8, h9]
          rw [this] at h6
          exact h6
        refine ops_step (o := o4) rfl g4 (value_wp (exec_extract (v := .bool false) h4 hv3 rfl) ?_)
        rw [d4]
        have he4 : EnvR ρ ((st1.env.set t3 (.tuple [.bool false])).set t4 (.bool false)) ((a.put (some t3) (.tuple #[.bool false])).put (some t4) (.bool false)).tmps := he3.put (by simp [VR]) t4
        show Exit.then _ _ .normal _ _
        refine wp_seq (wp_cond_false ?_ ?_)
        · have h := he4.get t4
          rw [getD_set_eq (by rw [List.length_set, hlen]; exact l4)] at h
          simp only [VR] at h
          exact h
        · refine wp_exit ?_
          show Exit.inBlock b3 R (.exit b3) _ _
          simp only [Exit.inBlock, if_true]
          exact hq ρ _ w .normal _ (hdone st1 hIs) he4 hd (hR.done ha0 hob hp rfl hobr)
      · -- an entry comes
        obtain ⟨hem, hes'⟩ := mem_left hel
        obtain ⟨⟨kd, vd⟩, hx, hxr⟩ := hes.mem e hem
        have hkr : VR ρ kd e.key := VR.mono hR.le _ _ hxr.key
        have hvr : VR ρ vd e.val := VR.mono hR.le _ _ hxr.val
        have hR1 := hR.step ha0 hob hp rfl hw1 (seen.push e.born)
        refine ops_step (o := o3) rfl g3 (value_wp (exec_next h3 (by rw [hve]; exact hrun)) ?_)
        rw [d3]
        have hvt : VR ρ (.tuple [.bool true, kd, vd]) (.tuple #[.bool true, e.key, e.val]) := by
          simp only [VR]
          exact ⟨_, rfl, .cons (by simp [VR]) (.cons hkr (.one hvr))⟩
        have he3 := he.put hvt t3
        have hv3 : (a.put (some t3) (.tuple #[.bool true, e.key, e.val])).eval (.tmp t3) = .tuple #[.bool true, e.key, e.val] := by
          show (a.tmps.setIfInBounds t3 _).getD t3 undef = _
          have : a.tmps.size = n := by have := VRs.length he; rw [hlen] at this; simpa using this
          simp [Array.getD_eq_getD_getElem?, Array.getElem?_setIfInBounds, this, l3]
        refine ops_step (o := o4) rfl g4 (value_wp (exec_extract (v := .bool true) h4 hv3 rfl) ?_)
        rw [d4]
        have he4 : EnvR ρ ((st1.env.set t3 (.tuple [.bool true, kd, vd])).set t4 (.bool true)) ((a.put (some t3) (.tuple #[.bool true, e.key, e.val])).put (some t4) (.bool true)).tmps := he3.put (by simp [VR]) t4
        show Exit.then _ _ .normal _ _
        refine wp_seq (wp_cond_true ?_ (wp_skip ?_))
        · have h := he4.get t4
          rw [getD_set_eq (by rw [List.length_set, hlen]; exact l4)] at h
          simp only [VR] at h
          exact h
        show Exit.then _ _ .normal _ _
        refine wp_block (wp_seq (wp_region ?_))
        have hsz : ops.size = tail.length + 1 := by rw [← Array.length_toList, hops]; rfl
        rw [hsz, List.range_eq_range']
        have hve2 : ((a.put (some t3) (.tuple #[.bool true, e.key, e.val])).put (some t4) (.bool true)).eval (.tmp t2) = .pointer (some ⟨w0.heap.size, 0, none⟩) := by
          have h := he4.get t2
          rw [getD_set_ne n24, getD_set_ne n23, hit] at h
          simp only [VR] at h
          obtain ⟨q, hq1, hq2⟩ := h
          rw [hR1.itp] at hq1; cases hq1
          exact hq2
        refine ops_step (o := e0) (by rw [← Array.getElem?_toList, hops]; rfl) g5 (value_wp (exec_entry h5 (by rw [hve2]; exact run_entry_at _ w0.heap.size plm.block clock seen ents clock e hR1.it hR1.mp hem hst.nd)) ?_)
        rw [d5]
        have he5 := he4.put (show VR ρ (.tuple [kd, vd]) (.tuple #[e.key, e.val]) by simp only [VR]; exact ⟨_, rfl, .cons hkr (.one hvr)⟩) t5
        obtain ⟨kk, st2, hrun2, hrest⟩ := (hround st1 kd vd hIs hx).ex
        refine ops_wp (callD_sound hX kk) tail 1 _ _ _ ρ (by rw [hops]; rfl) hrun2 he5 hd hR1.ag fun ρ2 a2 w2 k1 k2 k3 => ?_
        show Exit.then _ _ .normal _ _
        obtain ⟨kr, er, st3, hex, her, hI3⟩ := hrest.ex
        refine exec_sound hX.mix (callD_sound hX kr) kr rest hc st2 er st3 hex ρ2 a2 w2 _ k1 k2 k3.agree fun ρ3 a3 w3 m1 m2 m3 => ?_
        have hR3 := hR1.moves ha0 hob hp rfl (k3.trans m3) (hI st3 hI3).2.2
        have hnext : Code.rounds P (.seq (.region r2 #[o3, o4] false) (.seq (.cond (.tmp t4) .skip (.exit b3)) (.block b4 (.seq (.region r3 ops false) rest)))) (Exit.inBlock b3 R) k a3 w3 :=
          ih (seen.push e.born) ρ3 a3 w3 st3 (by have := left_shrinks ents seen e hel; omega) hI3 m1 m2 hR3
        rcases her with rfl | rfl
        · exact hnext
        · show Exit.inBlock b4 _ (.exit b4) _ _
          simp only [Exit.inBlock, if_true]
          exact hnext
  refine wp_loop_rounds ((leftOf ents #[]).size + 1) (key _ #[] _ _ _ _ (Nat.lt_succ_self _) h0 ?_ ?_ hs0)
  · refine (he1.mono hs0.le).put ?_ t2
    simp only [VR]
    exact ⟨_, Rho.add_same _ _ _, rfl⟩
  · exact hd
end
end Go.Det

/- A row out of what a code comes to, whatever is drawn. -/
namespace Go.Det
set_option linter.unusedVariables false
set_option linter.unusedSimpArgs false
open Go.ChangeShapes Go.WideShapes Go.RowKit
section
variable {P : Program} {A : Type} {enc : TypeId × Value → A} {W : World}
theorem calls_dw {f : FuncId} {fn : Func} {c : Code} (hf : P.funcs[f]? = some fn) (hb : fn.body = some c) {args : List DV} {H : DH} {K : DV → DH → Prop} (h : DW P c ⟨args ++ List.replicate (fn.ntmps - args.length) undefD, H⟩ (retR P fn.results.toList K)) {ρ : Rho} {w : World} {vs : Array Value} (ha : Agree ρ H w) (hv : VRs ρ args vs.toList) :
    Calls P f vs w fun | .returned v, w' => ∃ ρ' r H', K r H' ∧ VR ρ' r v ∧ Moves ρ H w ρ' H' w' | _, _ => False := by
  refine calls_of_wp hf hb ?_
  refine h.wp ρ _ w _ (entered (f := f) hv _) rfl ha fun ρ' a' w' e st' hq h1 h2 h3 => ?_
  cases e with
  | exit id => exact hq.elim
  | normal =>
    obtain ⟨r, hr, hk⟩ := hq
    obtain ⟨u, hu, hur⟩ := results_sound (fn := fn) (st := st') (d := r) hr h1 h3.agree
    exact ⟨h2, u, hu, ρ', r, _, hk, hur, h3⟩
  | ret =>
    obtain ⟨r, hr, hk⟩ := hq
    obtain ⟨u, hu, hur⟩ := results_sound (fn := fn) (st := st') (d := r) hr h1 h3.agree
    exact ⟨h2, u, hu, ρ', r, _, hk, hur, h3⟩
/-- A row whose call answers true, whatever it is handed. -/
theorem row_lawD {C : Checked} {os : Os} {f : FuncId} {fn : Func} {c : Code} {s : ChangeSpec} {conds : List PathCond} {ts : List TypeId} {rt : TypeId} {n : Nat}
    (own : ownKnob C.prog.godebug = none) (started : os.Started) (noInit : C.prog.inits.idxOf? f = none) (hfn : C.prog.funcs[f]? = some fn)
    (witness : ∃ (w : World) (tape : Tape) (i : Input), w.os = os ∧ (w.forCall tape i).Shaped C.prog ∧ i.vars = [] ∧ Input.okWide C.prog (w.forCall tape i) .any w.heap.size f i ∧
      s.pre6 enc C.prog fn conds false (w.forCall tape i).memory i.args ∧ Assume.holds {} C.prog (lone (Frame.enter C.prog f i.args .normal) [] (w.forCall tape i)))
    (hb : fn.body = some c) (hts : fn.params = ts.toArray) (hrt : fn.resultTypes = #[rt]) (hrb : C.prog.underlying rt = some .bool)
    (hok : (ts.all fun t => okTy C.prog n t) = true) (hread : (ts.all fun t => C.prog.readableRec t && decide (t < C.prog.types.size)) = true) (hlaid : laidOutB C.prog = true)
    (hvars : s.vars = []) (hs : ∀ ds : List (DataW A), ds.length = ts.length → s.fn A ds = { results := [.lit (.bool true)], args := ds })
    (law : ∀ H xs, RO H → WF H → TArgs C.prog H ts xs → DWF C.prog fn ⟨xs ++ List.replicate (fn.ntmps - xs.length) undefD, H⟩ (retR C.prog fn.results.toList (fun r _ => r = .bool true))) :
    ReturnsInHanded {} C os f .any (s.pre6 enc C.prog fn conds false) (s.post enc C.prog fn false true false false) := by
  refine returnsInHanded_of_change_sized own started noInit hfn witness ?_
  intro W base args ds gs before hval hW hcnd hsz hhold
  have hW' := hW
  obtain ⟨p, q, hA, hV, rfl, hfz, hnd⟩ := hW
  rw [hvars] at hV
  obtain ⟨rfl, rfl⟩ := trodVars_none hV
  have hts' : fn.params.toList = ts := by rw [hts]
  have hA' := hA
  rw [hts'] at hA'
  obtain ⟨ρ, H, xs, g, v1, t1⟩ := args_in (n := n) ts args.toList ds p (fun j t v h1 h2 => hval j t v (by rw [hts]; simpa using h1) (by simpa using h2)) hA' hok (empty_agree (W := W)) (fun l o h => by cases h)
  obtain ⟨c', ec, hcall⟩ := law H xs g.ro g.agree.wf t1
  rw [hb] at ec
  cases ec
  have hlen : ds.length = ts.length := by
    clear hval hW' hcnd hsz hhold hA hok hread t1 law hs
    revert hA'
    generalize args.toList = vs
    clear v1
    intro hA'
    have : ∀ (ts : List TypeId) (vs : List Value) (ds : List (DataW A)) (p : List MemPlace), DataW.TrodAll enc C.prog W 0 (fun _ => true) true ts vs ds p → ds.length = ts.length := by
      intro ts
      induction ts with
      | nil => intro vs ds p h; obtain ⟨_, rfl, _⟩ := trodAll_nil h; rfl
      | cons t ts ih =>
        intro vs ds p h
        obtain ⟨v, vs', d, ds', p, q, rfl, rfl, rfl, h1, h2⟩ := trodAll_cons h
        simp [ih _ _ _ h2]
    exact this ts vs ds p hA'
  refine (calls_dw hfn hb hcall g.agree v1).mono fun e W' he => ?_
  cases e with
  | returned v =>
    obtain ⟨ρ', r, H', rfl, hv, hm⟩ := he
    simp only [VR] at hv
    subst hv
    have hbel := hm.below g.ro
    obtain ⟨pa, hpa⟩ := trodAll_below hlaid hbel ts args.toList ds p hread hA'
    refine ⟨_, rfl, ds, [], _, [], pa, [], hW', ?_, ?_, ?_, hbel.frame _, fun h => by cases h⟩
    · rw [List.append_nil, hs ds hlen, hrt]
      exact trodAll_mk1 (shut_bool hrb true)
    · rw [List.append_nil, hs ds hlen, hts']
      exact hpa
    · rw [hvars]
      simp only [DataW.TrodVars, List.append_nil, hs ds hlen]
  | panicked ch => exact he.elim
  | outgrown => exact he.elim
end
end Go.Det

/- KernelOrders: what holds at each round. -/
namespace Go.Det.Q
open Go Go.Det Go.Proofs
set_option maxRecDepth 4000
set_option maxHeartbeats 16000000
set_option linter.unusedVariables false
set_option linter.unusedSimpArgs false
/-- What is done: of each place of the slice. -/
def ActsAt (H : DH) (p : Option (Nat × Nat × Nat)) (n : Nat) : Prop := ∀ k, k < n → ∃ loc i ro rs a b c d, p = some (loc, i, 4) ∧ loc < H.next ∧ H.obj loc = some (.rows ro 4 rs) ∧ rs[i + k]? = some [.int .u8 a, .int .u16 b, .int .u8 c, .int .u8 d] ∧ (0 ≤ a ∧ a ≤ 255) ∧ (0 ≤ b ∧ b ≤ 65535) ∧ (0 ≤ c ∧ c ≤ 255) ∧ (0 ≤ d ∧ d ≤ 255)
theorem part66 (a b c d : DV) : partD Try.prog 66 [a, b, c, d] 0 = some (.agg [a, b, c, d]) := rfl
theorem zero66 : zeroT Try.prog 66 = some (.agg [.int .u8 0, .int .u16 0, .int .u8 0, .int .u8 0]) := by kernel_rfl
/-- The first loop of a code. -/
def loopOf : Code → Option Code
  | .loop c => some c
  | .seq a b => (loopOf a).orElse fun _ => loopOf b
  | .block _ c => loopOf c
  | .cond _ a b => (loopOf a).orElse fun _ => loopOf b
  | _ => none
def DWL (P : Program) (fn : Func) (st : DSt) (Q : DExit → DSt → Prop) : Prop := ∃ c c', fn.body = some c ∧ loopOf c = some c' ∧ DW P c' st Q
theorem dwl_enter {P : Program} {fn : Func} {c c' : Code} {st : DSt} {Q : DExit → DSt → Prop} (hb : fn.body = some c) (hl : loopOf c = some c') (h : DW P c' st Q) : DWL P fn st Q := ⟨c, c', hb, hl, h⟩
theorem DWL.dw {P : Program} {fn : Func} {c c' : Code} {st : DSt} {Q : DExit → DSt → Prop} (h : DWL P fn st Q) (hb : fn.body = some c) (hl : loopOf c = some c') : DW P c' st Q := by
  obtain ⟨d, d', h1, h2, h3⟩ := h
  rw [hb] at h1; cases h1
  rw [hl] at h2; cases h2
  exact h3
def Inv10 (H : DH) (p : Option (Nat × Nat × Nat)) (n c : Nat) (ex : Bool) (hz : Int) (st : DSt) : Prop := ∃ (b6 b8 : Nat) (Hk : DH) (k : Nat) (sq : Sv) (q : Kq) (M : List Item), ∃ J : Nat → DV, (k ≤ n ∧ Ord q M hz k ∧ Bx H Hk [(b8, .map (thereE M)), (b6, (.rows false 4 [[sq.dv, .int .u64 q.nx, .int .i64 q.now, .int .i64 q.hor]]))] [Is sq.dv q.l]) ∧ st = ⟨(.sl p n c ex :: .int .u16 hz :: J 2 :: J 3 :: .bool false :: .bool true :: .ptr (some (b6, 0, 0)) :: J 7 :: .map (some b8) :: J 9 :: J 10 :: J 11 :: J 12 :: J 13 :: J 14 :: J 15 :: J 16 :: J 17 :: J 18 :: J 19 :: J 20 :: J 21 :: J 22 :: J 23 :: J 24 :: J 25 :: J 26 :: J 27 :: J 28 :: J 29 :: J 30 :: J 31 :: J 32 :: J 33 :: J 34 :: J 35 :: J 36 :: J 37 :: J 38 :: J 39 :: J 40 :: J 41 :: J 42 :: J 43 :: J 44 :: .sl p n c ex :: .int .i64 n :: .int .i64 (k : Int) :: J 48 :: J 49 :: J 50 :: J 51 :: J 52 :: J 53 :: J 54 :: J 55 :: J 56 :: J 57 :: J 58 :: J 59 :: J 60 :: J 61 :: J 62 :: J 63 :: J 64 :: J 65 :: J 66 :: J 67 :: J 68 :: J 69 :: J 70 :: J 71 :: J 72 :: J 73 :: J 74 :: J 75 :: J 76 :: J 77 :: J 78 :: J 79 :: J 80 :: J 81 :: J 82 :: J 83 :: J 84 :: J 85 :: J 86 :: J 87 :: J 88 :: J 89 :: J 90 :: J 91 :: J 92 :: J 93 :: J 94 :: J 95 :: J 96 :: J 97 :: J 98 :: J 99 :: J 100 :: J 101 :: J 102 :: J 103 :: J 104 :: J 105 :: J 106 :: J 107 :: J 108 :: J 109 :: J 110 :: J 111 :: J 112 :: J 113 :: J 114 :: J 115 :: J 116 :: J 117 :: J 118 :: J 119 :: J 120 :: J 121 :: J 122 :: J 123 :: J 124 :: J 125 :: J 126 :: J 127 :: J 128 :: J 129 :: J 130 :: J 131 :: J 132 :: J 133 :: J 134 :: J 135 :: J 136 :: J 137 :: J 138 :: J 139 :: J 140 :: J 141 :: J 142 :: J 143 :: J 144 :: J 145 :: J 146 :: J 147 :: J 148 :: J 149 :: J 150 :: J 151 :: J 152 :: J 153 :: J 154 :: J 155 :: J 156 :: J 157 :: J 158 :: J 159 :: J 160 :: J 161 :: J 162 :: J 163 :: J 164 :: J 165 :: J 166 :: J 167 :: J 168 :: J 169 :: J 170 :: J 171 :: J 172 :: J 173 :: J 174 :: J 175 :: J 176 :: J 177 :: J 178 :: J 179 :: J 180 :: J 181 :: J 182 :: J 183 :: J 184 :: J 185 :: J 186 :: J 187 :: J 188 :: J 189 :: J 190 :: J 191 :: J 192 :: J 193 :: J 194 :: J 195 :: J 196 :: J 197 :: J 198 :: J 199 :: J 200 :: J 201 :: J 202 :: J 203 :: J 204 :: J 205 :: J 206 :: J 207 :: J 208 :: J 209 :: J 210 :: J 211 :: J 212 :: J 213 :: J 214 :: J 215 :: J 216 :: J 217 :: J 218 :: J 219 :: J 220 :: J 221 :: J 222 :: J 223 :: J 224 :: []), Hk⟩
def Done10 (H : DH) (p : Option (Nat × Nat × Nat)) (n c : Nat) (ex : Bool) (hz : Int) (k : Nat) (e : DExit) (st : DSt) : Prop := e = .normal ∧ Inv10 H p n c ex hz st ∧ n - kOf st 47 < n - k
end Go.Det.Q

/- KernelOrders: a round in which something is posted. -/
namespace Go.Det.Q
open Go Go.Det Go.Proofs
set_option maxRecDepth 4000
set_option maxHeartbeats 16000000
set_option linter.unusedVariables false
set_option linter.unusedSimpArgs false
theorem post10_0 {H Hk : DH} {n c : Nat} {ex : Bool} {hz : Int} {b6 b8 k : Nat} {sq : Sv} {q : Kq} {M : List Item} {J : Nat → DV} {loc i0 : Nat} {ro : Bool} {rs : List (List DV)} {a b cc d : Int} (hn : n ≤ 120) (hlt : k < n) (hh : 0 ≤ hz ∧ hz ≤ 65535) (hord : Ord q M hz k) (hB : Bx H Hk [(b8, .map (thereE M)), (b6, (.rows false 4 [[sq.dv, .int .u64 q.nx, .int .i64 q.now, .int .i64 q.hor]]))] [Is sq.dv q.l]) (hloc : loc < H.next) (hobj : H.obj loc = some (.rows ro 4 rs)) (hrow : rs[i0 + k]? = some [.int .u8 a, .int .u16 b, .int .u8 cc, .int .u8 d]) (ha : 0 ≤ a ∧ a ≤ 255) (hb' : 0 ≤ b ∧ b ≤ 65535) (hcc : 0 ≤ cc ∧ cc ≤ 255) (hd : 0 ≤ d ∧ d ≤ 255) (hmod : a.tmod 4 = 0) : DWL Try.prog Try.f10 ⟨(.sl (some (loc, i0, 4)) n c ex :: .int .u16 hz :: J 2 :: J 3 :: .bool false :: .bool true :: .ptr (some (b6, 0, 0)) :: J 7 :: .map (some b8) :: J 9 :: J 10 :: J 11 :: J 12 :: J 13 :: J 14 :: J 15 :: J 16 :: J 17 :: J 18 :: J 19 :: J 20 :: J 21 :: J 22 :: J 23 :: J 24 :: J 25 :: J 26 :: J 27 :: J 28 :: J 29 :: J 30 :: J 31 :: J 32 :: J 33 :: J 34 :: J 35 :: J 36 :: J 37 :: J 38 :: J 39 :: J 40 :: J 41 :: J 42 :: J 43 :: J 44 :: .sl (some (loc, i0, 4)) n c ex :: .int .i64 n :: .int .i64 (k : Int) :: J 48 :: J 49 :: J 50 :: J 51 :: J 52 :: J 53 :: J 54 :: J 55 :: J 56 :: J 57 :: J 58 :: J 59 :: J 60 :: J 61 :: J 62 :: J 63 :: J 64 :: J 65 :: J 66 :: J 67 :: J 68 :: J 69 :: J 70 :: J 71 :: J 72 :: J 73 :: J 74 :: J 75 :: J 76 :: J 77 :: J 78 :: J 79 :: J 80 :: J 81 :: J 82 :: J 83 :: J 84 :: J 85 :: J 86 :: J 87 :: J 88 :: J 89 :: J 90 :: J 91 :: J 92 :: J 93 :: J 94 :: J 95 :: J 96 :: J 97 :: J 98 :: J 99 :: J 100 :: J 101 :: J 102 :: J 103 :: J 104 :: J 105 :: J 106 :: J 107 :: J 108 :: J 109 :: J 110 :: J 111 :: J 112 :: J 113 :: J 114 :: J 115 :: J 116 :: J 117 :: J 118 :: J 119 :: J 120 :: J 121 :: J 122 :: J 123 :: J 124 :: J 125 :: J 126 :: J 127 :: J 128 :: J 129 :: J 130 :: J 131 :: J 132 :: J 133 :: J 134 :: J 135 :: J 136 :: J 137 :: J 138 :: J 139 :: J 140 :: J 141 :: J 142 :: J 143 :: J 144 :: J 145 :: J 146 :: J 147 :: J 148 :: J 149 :: J 150 :: J 151 :: J 152 :: J 153 :: J 154 :: J 155 :: J 156 :: J 157 :: J 158 :: J 159 :: J 160 :: J 161 :: J 162 :: J 163 :: J 164 :: J 165 :: J 166 :: J 167 :: J 168 :: J 169 :: J 170 :: J 171 :: J 172 :: J 173 :: J 174 :: J 175 :: J 176 :: J 177 :: J 178 :: J 179 :: J 180 :: J 181 :: J 182 :: J 183 :: J 184 :: J 185 :: J 186 :: J 187 :: J 188 :: J 189 :: J 190 :: J 191 :: J 192 :: J 193 :: J 194 :: J 195 :: J 196 :: J 197 :: J 198 :: J 199 :: J 200 :: J 201 :: J 202 :: J 203 :: J 204 :: J 205 :: J 206 :: J 207 :: J 208 :: J 209 :: J 210 :: J 211 :: J 212 :: J 213 :: J 214 :: J 215 :: J 216 :: J 217 :: J 218 :: J 219 :: J 220 :: J 221 :: J 222 :: J 223 :: J 224 :: []), Hk⟩ (Done10 H (some (loc, i0, 4)) n c ex hz k) := by
  have hrk : rs[i0 + ((k : Int)).toNat]? = some [.int .u8 a, .int .u16 b, .int .u8 cc, .int .u8 d] := by rw [Int.toNat_natCast]; exact hrow
  have hc : decide ((k : Int) < (n : Int)) = true := by simp [hlt]
  have hin : 0 ≤ (k : Int) ∧ (k : Int) < (n : Int) := by omega
  have hwk := congrArg (DV.int .i64) (wrapNat (k := k) (by omega))
  have hwb : DV.int .i64 (IntKind.i64.wrap b) = .int .i64 b := by rw [wrapI (by omega)]
  have hwd : DV.int .i64 (IntKind.i64.wrap d) = .int .i64 d := by rw [wrapI (by omega)]
  have hwu : DV.int .u64 (IntKind.u64.wrap d) = .int .u64 d := by rw [wrapU (by omega) (by omega)]
  have hw1 : DV.int .i64 (IntKind.i64.wrap hz) = .int .i64 hz := by rw [wrapI (by omega)]
  have hoq : q.ok := hord.ok (by omega)
  obtain ⟨ci, hci, hcm⟩ : ∃ ci : Int, (0 ≤ ci ∧ ci ≤ 15) ∧ cc.tmod 16 = ci := ⟨cc % 16, by omega, by rw [Int.tmod_eq_emod_of_nonneg hcc.1]⟩
  have hwc : DV.int .i64 (IntKind.i64.wrap ci) = .int .i64 ci := by rw [wrapI (by omega)]
  refine dwl_enter rfl rfl ?_
  rcases ord_post hord (by omega) (a := b) (c := ci) (w := d) hb' hci with ⟨hge, he, hnot, hord'⟩ | ⟨hlt2, he, hord'⟩
  · have hfind := there_not hnot
    have hadd : thereE M ++ [(DV.int .u64 (q.tok b ci), DV.agg [.int .i64 b, .int .i64 ci, .int .u64 (q.tok b ci), .int .i64 1, .int .i64 d, .int .u64 7])] = thereE (M ++ [⟨b, ci, q.tok b ci, 1, d, 7⟩]) := there_add M ⟨b, ci, q.tok b ci, 1, d, 7⟩
    have m1 : (!((q.postE b ci == 0) == decide (b ≥ q.now))) = false := by rw [he]; simp; omega
    have m2 : (q.postE b ci == 0) = true := by rw [he]; rfl
    have m3 : (q.postE b ci != 0) = false := by rw [he]; rfl
    have m4 : decide ((q.post b ci 1 d 7).now < q.now) = false := by show decide (q.now < q.now) = false; simp
    have n7 := hord'.checkE
    have n8 := hord'.lenE
    repeat' (first
      | dsimp only [putD, DV.cells, DH.new_next, DH.set_next, List.length_cons, List.length_nil, Nat.reduceAdd, List.set_cons_zero, List.set_cons_succ, getD_zero, getD_succ, fieldAt_zero, fieldAt_succ, thenD, blockD, retR]
      | apply dw_seq
      | (apply dw_region okK5)
      | (apply dw_cond_t; (· exact rfl); (· (first | with_reducible assumption | with_reducible rfl | decide)))
      | (apply dw_cond_f; (· exact rfl); (· (first | with_reducible assumption | with_reducible rfl | decide)))
      | apply dw_block
      | apply dw_skip
      | apply ops_nil
      | (apply ops_plain; (· exact rfl))
      | (apply ops_on; (· exact rfl); (· exact rfl); (· (first | with_reducible assumption | with_reducible rfl | decide)))
      | (apply ops_off1; (· exact rfl); (· exact rfl); (· (first | with_reducible assumption | with_reducible rfl | decide)))
      | (apply op_call; (· exact rfl); (· exact rfl); (· exact rfl); (apply post_b; (· assumption); (· (repeat (first | with_reducible exact InF.here | with_reducible assumption | with_reducible apply InF.there))); (· (repeat (first | assumption | apply Kq.post_ok | apply Kq.rpost_ok | apply Kq.cancel_ok | apply Kq.rcancel_ok | apply Kq.step_ok | apply Kq.rstep_ok | apply Kq.tidy_ok | apply kNew_ok))); intro s1 H1 hB))
      | (apply op_call; (· exact rfl); (· exact rfl); (· exact rfl); (apply check_b; (· assumption); (· (repeat (first | with_reducible exact InF.here | with_reducible assumption | with_reducible apply InF.there)))))
      | (apply op_pick_f; (· exact rfl); (· exact rfl); (· (first | with_reducible assumption | with_reducible rfl | decide)); (· exact rfl))
      | (apply bx_load0; (· exact rfl); (· exact rfl); (· assumption); (· (repeat (first | with_reducible exact At.here | with_reducible apply At.there))); (· (first | exact part48 _ _ _ _ | exact part26 _ | exact part26' _ _ _ _ _ _ | exact part66 _ _ _ _ | exact rfl)))
      | (apply bx_store0; (· exact rfl); (· exact rfl); (· exact rfl); (· assumption); (· (first | (dsimp only [putD, DV.cells, DH.new_next, DH.set_next, List.length_cons, List.length_nil, Nat.reduceAdd, List.set_cons_zero, List.set_cons_succ, getD_zero, getD_succ, fieldAt_zero, fieldAt_succ, thenD, blockD, retR, Sv.cells]; done) | (dsimp only [putD, DV.cells, DH.new_next, DH.set_next, List.length_cons, List.length_nil, Nat.reduceAdd, List.set_cons_zero, List.set_cons_succ, getD_zero, getD_succ, fieldAt_zero, fieldAt_succ, thenD, blockD, retR, Sv.cells]; exact rfl) | exact rfl)); (· (repeat (first | with_reducible exact Upd.here | with_reducible apply Upd.there))); (· exact rfl); (· exact rfl); (· exact rfl); (· exact rfl); intro H1 hB)
      | (apply bx_alloc; (· exact rfl); (· exact zero48); (· (first | (dsimp only [putD, DV.cells, DH.new_next, DH.set_next, List.length_cons, List.length_nil, Nat.reduceAdd, List.set_cons_zero, List.set_cons_succ, getD_zero, getD_succ, fieldAt_zero, fieldAt_succ, thenD, blockD, retR, Sv.cells]; done) | (dsimp only [putD, DV.cells, DH.new_next, DH.set_next, List.length_cons, List.length_nil, Nat.reduceAdd, List.set_cons_zero, List.set_cons_succ, getD_zero, getD_succ, fieldAt_zero, fieldAt_succ, thenD, blockD, retR, Sv.cells]; exact rfl) | exact rfl)); (· exact rfl); (· exact rfl); (· assumption); intro b1 H1 hB)
      | (apply bx_alloc; (· exact rfl); (· exact zero26); (· (first | (dsimp only [putD, DV.cells, DH.new_next, DH.set_next, List.length_cons, List.length_nil, Nat.reduceAdd, List.set_cons_zero, List.set_cons_succ, getD_zero, getD_succ, fieldAt_zero, fieldAt_succ, thenD, blockD, retR, Sv.cells]; done) | (dsimp only [putD, DV.cells, DH.new_next, DH.set_next, List.length_cons, List.length_nil, Nat.reduceAdd, List.set_cons_zero, List.set_cons_succ, getD_zero, getD_succ, fieldAt_zero, fieldAt_succ, thenD, blockD, retR, Sv.cells]; exact rfl) | exact rfl)); (· exact rfl); (· exact rfl); (· assumption); intro b1 H1 hB)
      | (apply bx_alloc; (· exact rfl); (· exact zero66); (· (first | (dsimp only [putD, DV.cells, DH.new_next, DH.set_next, List.length_cons, List.length_nil, Nat.reduceAdd, List.set_cons_zero, List.set_cons_succ, getD_zero, getD_succ, fieldAt_zero, fieldAt_succ, thenD, blockD, retR, Sv.cells]; done) | (dsimp only [putD, DV.cells, DH.new_next, DH.set_next, List.length_cons, List.length_nil, Nat.reduceAdd, List.set_cons_zero, List.set_cons_succ, getD_zero, getD_succ, fieldAt_zero, fieldAt_succ, thenD, blockD, retR, Sv.cells]; exact rfl) | exact rfl)); (· exact rfl); (· exact rfl); (· assumption); intro b1 H1 hB)
      | (apply bx_update0e; (· exact rfl); (· exact rfl); (· exact rfl); (· exact rfl); (· exact Try.underlying64); (· assumption); (· exact keyOk_int _); (· exact hfind); (· exact hadd); (· (repeat (first | with_reducible exact Upd.here | with_reducible apply Upd.there))); intro H1 hB)
      | (apply bx_lookup0T; (· exact rfl); (· exact rfl); (· exact rfl); (· exact Try.underlying64); (· assumption); (· (repeat (first | with_reducible exact At.here | with_reducible apply At.there))); (· exact keyOk_int _); (· exact hfind); (· exact zero26))
      | (apply op_told; (· exact rfl); (· exact hwc))
      | (apply op_at; (· exact opD_rem rfl rfl rfl (by decide) hcm))
      | (apply bx_loadA; (· exact rfl); (· exact rfl); (· assumption); (· exact hloc); (· exact hobj); (· exact hrk); (· exact part66 _ _ _ _))
      | (apply op_index_at; (· exact rfl); (· exact rfl); (· exact rfl); (· with_reducible exact hin); (· exact rfl); (· exact rfl))
      | (apply op_at; (· exact opD_rem rfl rfl rfl (by decide) hmod))
      | (apply bx_maplen; (· exact rfl); (· exact rfl); (· exact Try.underlying64); (· assumption); (· (repeat (first | with_reducible exact At.here | with_reducible apply At.there))))
      | (apply op_len_b; (· exact rfl); (· exact rfl); (· assumption); (· (repeat (first | with_reducible exact InF.here | with_reducible assumption | with_reducible apply InF.there))))
      | (apply op_told; (· exact rfl); (· exact hwk))
      | (apply op_told; (· exact rfl); (· exact hwb))
      | (apply op_told; (· exact rfl); (· exact hwd))
      | (apply op_at; (· exact opD_neqb rfl rfl rfl rfl))
      | (apply op_at; (· exact rfl))
      | fail)
    have hB := hB.drop1.drop1.drop1.one
    refine ⟨rfl, ⟨_, _, _, k + 1, _, q.post b ci 1 d 7, M ++ [⟨b, ci, q.tok b ci, 1, d, 7⟩], junk_facts (⟨by omega, hord', hB⟩) rfl rfl⟩, ?_⟩
    show n - ((k + 1 : Nat) : Int).toNat < n - k
    omega
  · have m1 : (!((q.postE b ci == 0) == decide (b ≥ q.now))) = false := by rw [he]; simp; omega
    have m2 : (q.postE b ci == 0) = false := by rw [he]; rfl
    have m3 : (q.postE b ci != 0) = true := by rw [he]; rfl
    have m5 : (q.postE b ci != 2) = false := by rw [he]; rfl
    have m4 : decide ((q.post b ci 1 d 7).now < q.now) = false := by show decide (q.now < q.now) = false; simp
    have n7 := hord'.checkE
    have n8 := hord'.lenE
    repeat' (first
      | dsimp only [putD, DV.cells, DH.new_next, DH.set_next, List.length_cons, List.length_nil, Nat.reduceAdd, List.set_cons_zero, List.set_cons_succ, getD_zero, getD_succ, fieldAt_zero, fieldAt_succ, thenD, blockD, retR]
      | apply dw_seq
      | (apply dw_region okK5)
      | (apply dw_cond_t; (· exact rfl); (· (first | with_reducible assumption | with_reducible rfl | decide)))
      | (apply dw_cond_f; (· exact rfl); (· (first | with_reducible assumption | with_reducible rfl | decide)))
      | apply dw_block
      | apply dw_skip
      | apply ops_nil
      | (apply ops_plain; (· exact rfl))
      | (apply ops_on; (· exact rfl); (· exact rfl); (· (first | with_reducible assumption | with_reducible rfl | decide)))
      | (apply op_call; (· exact rfl); (· exact rfl); (· exact rfl); (apply post_b; (· assumption); (· (repeat (first | with_reducible exact InF.here | with_reducible assumption | with_reducible apply InF.there))); (· (repeat (first | assumption | apply Kq.post_ok | apply Kq.rpost_ok | apply Kq.cancel_ok | apply Kq.rcancel_ok | apply Kq.step_ok | apply Kq.rstep_ok | apply Kq.tidy_ok | apply kNew_ok))); intro s1 H1 hB))
      | (apply op_call; (· exact rfl); (· exact rfl); (· exact rfl); (apply check_b; (· assumption); (· (repeat (first | with_reducible exact InF.here | with_reducible assumption | with_reducible apply InF.there)))))
      | (apply op_pick_t; (· exact rfl); (· exact rfl); (· (first | with_reducible assumption | with_reducible rfl | decide)); (· exact rfl))
      | (apply op_pick_f; (· exact rfl); (· exact rfl); (· (first | with_reducible assumption | with_reducible rfl | decide)); (· exact rfl))
      | (apply bx_load0; (· exact rfl); (· exact rfl); (· assumption); (· (repeat (first | with_reducible exact At.here | with_reducible apply At.there))); (· (first | exact part48 _ _ _ _ | exact part26 _ | exact part26' _ _ _ _ _ _ | exact part66 _ _ _ _ | exact rfl)))
      | (apply bx_store0; (· exact rfl); (· exact rfl); (· exact rfl); (· assumption); (· (first | (dsimp only [putD, DV.cells, DH.new_next, DH.set_next, List.length_cons, List.length_nil, Nat.reduceAdd, List.set_cons_zero, List.set_cons_succ, getD_zero, getD_succ, fieldAt_zero, fieldAt_succ, thenD, blockD, retR, Sv.cells]; done) | (dsimp only [putD, DV.cells, DH.new_next, DH.set_next, List.length_cons, List.length_nil, Nat.reduceAdd, List.set_cons_zero, List.set_cons_succ, getD_zero, getD_succ, fieldAt_zero, fieldAt_succ, thenD, blockD, retR, Sv.cells]; exact rfl) | exact rfl)); (· (repeat (first | with_reducible exact Upd.here | with_reducible apply Upd.there))); (· exact rfl); (· exact rfl); (· exact rfl); (· exact rfl); intro H1 hB)
      | (apply bx_alloc; (· exact rfl); (· exact zero48); (· (first | (dsimp only [putD, DV.cells, DH.new_next, DH.set_next, List.length_cons, List.length_nil, Nat.reduceAdd, List.set_cons_zero, List.set_cons_succ, getD_zero, getD_succ, fieldAt_zero, fieldAt_succ, thenD, blockD, retR, Sv.cells]; done) | (dsimp only [putD, DV.cells, DH.new_next, DH.set_next, List.length_cons, List.length_nil, Nat.reduceAdd, List.set_cons_zero, List.set_cons_succ, getD_zero, getD_succ, fieldAt_zero, fieldAt_succ, thenD, blockD, retR, Sv.cells]; exact rfl) | exact rfl)); (· exact rfl); (· exact rfl); (· assumption); intro b1 H1 hB)
      | (apply bx_alloc; (· exact rfl); (· exact zero66); (· (first | (dsimp only [putD, DV.cells, DH.new_next, DH.set_next, List.length_cons, List.length_nil, Nat.reduceAdd, List.set_cons_zero, List.set_cons_succ, getD_zero, getD_succ, fieldAt_zero, fieldAt_succ, thenD, blockD, retR, Sv.cells]; done) | (dsimp only [putD, DV.cells, DH.new_next, DH.set_next, List.length_cons, List.length_nil, Nat.reduceAdd, List.set_cons_zero, List.set_cons_succ, getD_zero, getD_succ, fieldAt_zero, fieldAt_succ, thenD, blockD, retR, Sv.cells]; exact rfl) | exact rfl)); (· exact rfl); (· exact rfl); (· assumption); intro b1 H1 hB)
      | (apply op_told; (· exact rfl); (· exact hwc))
      | (apply op_at; (· exact opD_rem rfl rfl rfl (by decide) hcm))
      | (apply bx_loadA; (· exact rfl); (· exact rfl); (· assumption); (· exact hloc); (· exact hobj); (· exact hrk); (· exact part66 _ _ _ _))
      | (apply op_index_at; (· exact rfl); (· exact rfl); (· exact rfl); (· with_reducible exact hin); (· exact rfl); (· exact rfl))
      | (apply op_at; (· exact opD_rem rfl rfl rfl (by decide) hmod))
      | (apply bx_maplen; (· exact rfl); (· exact rfl); (· exact Try.underlying64); (· assumption); (· (repeat (first | with_reducible exact At.here | with_reducible apply At.there))))
      | (apply op_len_b; (· exact rfl); (· exact rfl); (· assumption); (· (repeat (first | with_reducible exact InF.here | with_reducible assumption | with_reducible apply InF.there))))
      | (apply op_told; (· exact rfl); (· exact hwk))
      | (apply op_told; (· exact rfl); (· exact hwb))
      | (apply op_told; (· exact rfl); (· exact hwd))
      | (apply op_at; (· exact opD_neqb rfl rfl rfl rfl))
      | (apply op_at; (· exact rfl))
      | fail)
    have hB := hB.drop1.drop1.one
    refine ⟨rfl, ⟨_, _, _, k + 1, _, q.post b ci 1 d 7, M, junk_facts (⟨by omega, hord', hB⟩) rfl rfl⟩, ?_⟩
    show n - ((k + 1 : Nat) : Int).toNat < n - k
    omega
theorem post10_1 {H Hk : DH} {n c : Nat} {ex : Bool} {hz : Int} {b6 b8 k : Nat} {sq : Sv} {q : Kq} {M : List Item} {J : Nat → DV} {loc i0 : Nat} {ro : Bool} {rs : List (List DV)} {a b cc d : Int} (hn : n ≤ 120) (hlt : k < n) (hh : 0 ≤ hz ∧ hz ≤ 65535) (hord : Ord q M hz k) (hB : Bx H Hk [(b8, .map (thereE M)), (b6, (.rows false 4 [[sq.dv, .int .u64 q.nx, .int .i64 q.now, .int .i64 q.hor]]))] [Is sq.dv q.l]) (hloc : loc < H.next) (hobj : H.obj loc = some (.rows ro 4 rs)) (hrow : rs[i0 + k]? = some [.int .u8 a, .int .u16 b, .int .u8 cc, .int .u8 d]) (ha : 0 ≤ a ∧ a ≤ 255) (hb' : 0 ≤ b ∧ b ≤ 65535) (hcc : 0 ≤ cc ∧ cc ≤ 255) (hd : 0 ≤ d ∧ d ≤ 255) (hmod : a.tmod 4 = 1) : DWL Try.prog Try.f10 ⟨(.sl (some (loc, i0, 4)) n c ex :: .int .u16 hz :: J 2 :: J 3 :: .bool false :: .bool true :: .ptr (some (b6, 0, 0)) :: J 7 :: .map (some b8) :: J 9 :: J 10 :: J 11 :: J 12 :: J 13 :: J 14 :: J 15 :: J 16 :: J 17 :: J 18 :: J 19 :: J 20 :: J 21 :: J 22 :: J 23 :: J 24 :: J 25 :: J 26 :: J 27 :: J 28 :: J 29 :: J 30 :: J 31 :: J 32 :: J 33 :: J 34 :: J 35 :: J 36 :: J 37 :: J 38 :: J 39 :: J 40 :: J 41 :: J 42 :: J 43 :: J 44 :: .sl (some (loc, i0, 4)) n c ex :: .int .i64 n :: .int .i64 (k : Int) :: J 48 :: J 49 :: J 50 :: J 51 :: J 52 :: J 53 :: J 54 :: J 55 :: J 56 :: J 57 :: J 58 :: J 59 :: J 60 :: J 61 :: J 62 :: J 63 :: J 64 :: J 65 :: J 66 :: J 67 :: J 68 :: J 69 :: J 70 :: J 71 :: J 72 :: J 73 :: J 74 :: J 75 :: J 76 :: J 77 :: J 78 :: J 79 :: J 80 :: J 81 :: J 82 :: J 83 :: J 84 :: J 85 :: J 86 :: J 87 :: J 88 :: J 89 :: J 90 :: J 91 :: J 92 :: J 93 :: J 94 :: J 95 :: J 96 :: J 97 :: J 98 :: J 99 :: J 100 :: J 101 :: J 102 :: J 103 :: J 104 :: J 105 :: J 106 :: J 107 :: J 108 :: J 109 :: J 110 :: J 111 :: J 112 :: J 113 :: J 114 :: J 115 :: J 116 :: J 117 :: J 118 :: J 119 :: J 120 :: J 121 :: J 122 :: J 123 :: J 124 :: J 125 :: J 126 :: J 127 :: J 128 :: J 129 :: J 130 :: J 131 :: J 132 :: J 133 :: J 134 :: J 135 :: J 136 :: J 137 :: J 138 :: J 139 :: J 140 :: J 141 :: J 142 :: J 143 :: J 144 :: J 145 :: J 146 :: J 147 :: J 148 :: J 149 :: J 150 :: J 151 :: J 152 :: J 153 :: J 154 :: J 155 :: J 156 :: J 157 :: J 158 :: J 159 :: J 160 :: J 161 :: J 162 :: J 163 :: J 164 :: J 165 :: J 166 :: J 167 :: J 168 :: J 169 :: J 170 :: J 171 :: J 172 :: J 173 :: J 174 :: J 175 :: J 176 :: J 177 :: J 178 :: J 179 :: J 180 :: J 181 :: J 182 :: J 183 :: J 184 :: J 185 :: J 186 :: J 187 :: J 188 :: J 189 :: J 190 :: J 191 :: J 192 :: J 193 :: J 194 :: J 195 :: J 196 :: J 197 :: J 198 :: J 199 :: J 200 :: J 201 :: J 202 :: J 203 :: J 204 :: J 205 :: J 206 :: J 207 :: J 208 :: J 209 :: J 210 :: J 211 :: J 212 :: J 213 :: J 214 :: J 215 :: J 216 :: J 217 :: J 218 :: J 219 :: J 220 :: J 221 :: J 222 :: J 223 :: J 224 :: []), Hk⟩ (Done10 H (some (loc, i0, 4)) n c ex hz k) := by
  have hrk : rs[i0 + ((k : Int)).toNat]? = some [.int .u8 a, .int .u16 b, .int .u8 cc, .int .u8 d] := by rw [Int.toNat_natCast]; exact hrow
  have hc : decide ((k : Int) < (n : Int)) = true := by simp [hlt]
  have hin : 0 ≤ (k : Int) ∧ (k : Int) < (n : Int) := by omega
  have hwk := congrArg (DV.int .i64) (wrapNat (k := k) (by omega))
  have hwb : DV.int .i64 (IntKind.i64.wrap b) = .int .i64 b := by rw [wrapI (by omega)]
  have hwd : DV.int .i64 (IntKind.i64.wrap d) = .int .i64 d := by rw [wrapI (by omega)]
  have hwu : DV.int .u64 (IntKind.u64.wrap d) = .int .u64 d := by rw [wrapU (by omega) (by omega)]
  have hw1 : DV.int .i64 (IntKind.i64.wrap hz) = .int .i64 hz := by rw [wrapI (by omega)]
  have hoq : q.ok := hord.ok (by omega)
  obtain ⟨ci, hci, hcm⟩ : ∃ ci : Int, (0 ≤ ci ∧ ci ≤ 15) ∧ cc.tmod 16 = ci := ⟨cc % 16, by omega, by rw [Int.tmod_eq_emod_of_nonneg hcc.1]⟩
  have hwc : DV.int .i64 (IntKind.i64.wrap ci) = .int .i64 ci := by rw [wrapI (by omega)]
  refine dwl_enter rfl rfl ?_
  rcases ord_post hord (by omega) (a := b) (c := ci) (w := d) hb' hci with ⟨hge, he, hnot, hord'⟩ | ⟨hlt2, he, hord'⟩
  · have hfind := there_not hnot
    have hadd : thereE M ++ [(DV.int .u64 (q.tok b ci), DV.agg [.int .i64 b, .int .i64 ci, .int .u64 (q.tok b ci), .int .i64 1, .int .i64 d, .int .u64 7])] = thereE (M ++ [⟨b, ci, q.tok b ci, 1, d, 7⟩]) := there_add M ⟨b, ci, q.tok b ci, 1, d, 7⟩
    have m1 : (!((q.postE b ci == 0) == decide (b ≥ q.now))) = false := by rw [he]; simp; omega
    have m2 : (q.postE b ci == 0) = true := by rw [he]; rfl
    have m3 : (q.postE b ci != 0) = false := by rw [he]; rfl
    have m4 : decide ((q.post b ci 1 d 7).now < q.now) = false := by show decide (q.now < q.now) = false; simp
    have n7 := hord'.checkE
    have n8 := hord'.lenE
    repeat' (first
      | dsimp only [putD, DV.cells, DH.new_next, DH.set_next, List.length_cons, List.length_nil, Nat.reduceAdd, List.set_cons_zero, List.set_cons_succ, getD_zero, getD_succ, fieldAt_zero, fieldAt_succ, thenD, blockD, retR]
      | apply dw_seq
      | (apply dw_region okK5)
      | (apply dw_cond_t; (· exact rfl); (· (first | with_reducible assumption | with_reducible rfl | decide)))
      | (apply dw_cond_f; (· exact rfl); (· (first | with_reducible assumption | with_reducible rfl | decide)))
      | apply dw_block
      | apply dw_skip
      | apply ops_nil
      | (apply ops_plain; (· exact rfl))
      | (apply ops_on; (· exact rfl); (· exact rfl); (· (first | with_reducible assumption | with_reducible rfl | decide)))
      | (apply ops_off1; (· exact rfl); (· exact rfl); (· (first | with_reducible assumption | with_reducible rfl | decide)))
      | (apply op_call; (· exact rfl); (· exact rfl); (· exact rfl); (apply post_b; (· assumption); (· (repeat (first | with_reducible exact InF.here | with_reducible assumption | with_reducible apply InF.there))); (· (repeat (first | assumption | apply Kq.post_ok | apply Kq.rpost_ok | apply Kq.cancel_ok | apply Kq.rcancel_ok | apply Kq.step_ok | apply Kq.rstep_ok | apply Kq.tidy_ok | apply kNew_ok))); intro s1 H1 hB))
      | (apply op_call; (· exact rfl); (· exact rfl); (· exact rfl); (apply check_b; (· assumption); (· (repeat (first | with_reducible exact InF.here | with_reducible assumption | with_reducible apply InF.there)))))
      | (apply op_pick_f; (· exact rfl); (· exact rfl); (· (first | with_reducible assumption | with_reducible rfl | decide)); (· exact rfl))
      | (apply bx_load0; (· exact rfl); (· exact rfl); (· assumption); (· (repeat (first | with_reducible exact At.here | with_reducible apply At.there))); (· (first | exact part48 _ _ _ _ | exact part26 _ | exact part26' _ _ _ _ _ _ | exact part66 _ _ _ _ | exact rfl)))
      | (apply bx_store0; (· exact rfl); (· exact rfl); (· exact rfl); (· assumption); (· (first | (dsimp only [putD, DV.cells, DH.new_next, DH.set_next, List.length_cons, List.length_nil, Nat.reduceAdd, List.set_cons_zero, List.set_cons_succ, getD_zero, getD_succ, fieldAt_zero, fieldAt_succ, thenD, blockD, retR, Sv.cells]; done) | (dsimp only [putD, DV.cells, DH.new_next, DH.set_next, List.length_cons, List.length_nil, Nat.reduceAdd, List.set_cons_zero, List.set_cons_succ, getD_zero, getD_succ, fieldAt_zero, fieldAt_succ, thenD, blockD, retR, Sv.cells]; exact rfl) | exact rfl)); (· (repeat (first | with_reducible exact Upd.here | with_reducible apply Upd.there))); (· exact rfl); (· exact rfl); (· exact rfl); (· exact rfl); intro H1 hB)
      | (apply bx_alloc; (· exact rfl); (· exact zero48); (· (first | (dsimp only [putD, DV.cells, DH.new_next, DH.set_next, List.length_cons, List.length_nil, Nat.reduceAdd, List.set_cons_zero, List.set_cons_succ, getD_zero, getD_succ, fieldAt_zero, fieldAt_succ, thenD, blockD, retR, Sv.cells]; done) | (dsimp only [putD, DV.cells, DH.new_next, DH.set_next, List.length_cons, List.length_nil, Nat.reduceAdd, List.set_cons_zero, List.set_cons_succ, getD_zero, getD_succ, fieldAt_zero, fieldAt_succ, thenD, blockD, retR, Sv.cells]; exact rfl) | exact rfl)); (· exact rfl); (· exact rfl); (· assumption); intro b1 H1 hB)
      | (apply bx_alloc; (· exact rfl); (· exact zero26); (· (first | (dsimp only [putD, DV.cells, DH.new_next, DH.set_next, List.length_cons, List.length_nil, Nat.reduceAdd, List.set_cons_zero, List.set_cons_succ, getD_zero, getD_succ, fieldAt_zero, fieldAt_succ, thenD, blockD, retR, Sv.cells]; done) | (dsimp only [putD, DV.cells, DH.new_next, DH.set_next, List.length_cons, List.length_nil, Nat.reduceAdd, List.set_cons_zero, List.set_cons_succ, getD_zero, getD_succ, fieldAt_zero, fieldAt_succ, thenD, blockD, retR, Sv.cells]; exact rfl) | exact rfl)); (· exact rfl); (· exact rfl); (· assumption); intro b1 H1 hB)
      | (apply bx_alloc; (· exact rfl); (· exact zero66); (· (first | (dsimp only [putD, DV.cells, DH.new_next, DH.set_next, List.length_cons, List.length_nil, Nat.reduceAdd, List.set_cons_zero, List.set_cons_succ, getD_zero, getD_succ, fieldAt_zero, fieldAt_succ, thenD, blockD, retR, Sv.cells]; done) | (dsimp only [putD, DV.cells, DH.new_next, DH.set_next, List.length_cons, List.length_nil, Nat.reduceAdd, List.set_cons_zero, List.set_cons_succ, getD_zero, getD_succ, fieldAt_zero, fieldAt_succ, thenD, blockD, retR, Sv.cells]; exact rfl) | exact rfl)); (· exact rfl); (· exact rfl); (· assumption); intro b1 H1 hB)
      | (apply bx_update0e; (· exact rfl); (· exact rfl); (· exact rfl); (· exact rfl); (· exact Try.underlying64); (· assumption); (· exact keyOk_int _); (· exact hfind); (· exact hadd); (· (repeat (first | with_reducible exact Upd.here | with_reducible apply Upd.there))); intro H1 hB)
      | (apply bx_lookup0T; (· exact rfl); (· exact rfl); (· exact rfl); (· exact Try.underlying64); (· assumption); (· (repeat (first | with_reducible exact At.here | with_reducible apply At.there))); (· exact keyOk_int _); (· exact hfind); (· exact zero26))
      | (apply op_told; (· exact rfl); (· exact hwc))
      | (apply op_at; (· exact opD_rem rfl rfl rfl (by decide) hcm))
      | (apply bx_loadA; (· exact rfl); (· exact rfl); (· assumption); (· exact hloc); (· exact hobj); (· exact hrk); (· exact part66 _ _ _ _))
      | (apply op_index_at; (· exact rfl); (· exact rfl); (· exact rfl); (· with_reducible exact hin); (· exact rfl); (· exact rfl))
      | (apply op_at; (· exact opD_rem rfl rfl rfl (by decide) hmod))
      | (apply bx_maplen; (· exact rfl); (· exact rfl); (· exact Try.underlying64); (· assumption); (· (repeat (first | with_reducible exact At.here | with_reducible apply At.there))))
      | (apply op_len_b; (· exact rfl); (· exact rfl); (· assumption); (· (repeat (first | with_reducible exact InF.here | with_reducible assumption | with_reducible apply InF.there))))
      | (apply op_told; (· exact rfl); (· exact hwk))
      | (apply op_told; (· exact rfl); (· exact hwb))
      | (apply op_told; (· exact rfl); (· exact hwd))
      | (apply op_at; (· exact opD_neqb rfl rfl rfl rfl))
      | (apply op_at; (· exact rfl))
      | fail)
    have hB := hB.drop1.drop1.drop1.one
    refine ⟨rfl, ⟨_, _, _, k + 1, _, q.post b ci 1 d 7, M ++ [⟨b, ci, q.tok b ci, 1, d, 7⟩], junk_facts (⟨by omega, hord', hB⟩) rfl rfl⟩, ?_⟩
    show n - ((k + 1 : Nat) : Int).toNat < n - k
    omega
  · have m1 : (!((q.postE b ci == 0) == decide (b ≥ q.now))) = false := by rw [he]; simp; omega
    have m2 : (q.postE b ci == 0) = false := by rw [he]; rfl
    have m3 : (q.postE b ci != 0) = true := by rw [he]; rfl
    have m5 : (q.postE b ci != 2) = false := by rw [he]; rfl
    have m4 : decide ((q.post b ci 1 d 7).now < q.now) = false := by show decide (q.now < q.now) = false; simp
    have n7 := hord'.checkE
    have n8 := hord'.lenE
    repeat' (first
      | dsimp only [putD, DV.cells, DH.new_next, DH.set_next, List.length_cons, List.length_nil, Nat.reduceAdd, List.set_cons_zero, List.set_cons_succ, getD_zero, getD_succ, fieldAt_zero, fieldAt_succ, thenD, blockD, retR]
      | apply dw_seq
      | (apply dw_region okK5)
      | (apply dw_cond_t; (· exact rfl); (· (first | with_reducible assumption | with_reducible rfl | decide)))
      | (apply dw_cond_f; (· exact rfl); (· (first | with_reducible assumption | with_reducible rfl | decide)))
      | apply dw_block
      | apply dw_skip
      | apply ops_nil
      | (apply ops_plain; (· exact rfl))
      | (apply ops_on; (· exact rfl); (· exact rfl); (· (first | with_reducible assumption | with_reducible rfl | decide)))
      | (apply op_call; (· exact rfl); (· exact rfl); (· exact rfl); (apply post_b; (· assumption); (· (repeat (first | with_reducible exact InF.here | with_reducible assumption | with_reducible apply InF.there))); (· (repeat (first | assumption | apply Kq.post_ok | apply Kq.rpost_ok | apply Kq.cancel_ok | apply Kq.rcancel_ok | apply Kq.step_ok | apply Kq.rstep_ok | apply Kq.tidy_ok | apply kNew_ok))); intro s1 H1 hB))
      | (apply op_call; (· exact rfl); (· exact rfl); (· exact rfl); (apply check_b; (· assumption); (· (repeat (first | with_reducible exact InF.here | with_reducible assumption | with_reducible apply InF.there)))))
      | (apply op_pick_t; (· exact rfl); (· exact rfl); (· (first | with_reducible assumption | with_reducible rfl | decide)); (· exact rfl))
      | (apply op_pick_f; (· exact rfl); (· exact rfl); (· (first | with_reducible assumption | with_reducible rfl | decide)); (· exact rfl))
      | (apply bx_load0; (· exact rfl); (· exact rfl); (· assumption); (· (repeat (first | with_reducible exact At.here | with_reducible apply At.there))); (· (first | exact part48 _ _ _ _ | exact part26 _ | exact part26' _ _ _ _ _ _ | exact part66 _ _ _ _ | exact rfl)))
      | (apply bx_store0; (· exact rfl); (· exact rfl); (· exact rfl); (· assumption); (· (first | (dsimp only [putD, DV.cells, DH.new_next, DH.set_next, List.length_cons, List.length_nil, Nat.reduceAdd, List.set_cons_zero, List.set_cons_succ, getD_zero, getD_succ, fieldAt_zero, fieldAt_succ, thenD, blockD, retR, Sv.cells]; done) | (dsimp only [putD, DV.cells, DH.new_next, DH.set_next, List.length_cons, List.length_nil, Nat.reduceAdd, List.set_cons_zero, List.set_cons_succ, getD_zero, getD_succ, fieldAt_zero, fieldAt_succ, thenD, blockD, retR, Sv.cells]; exact rfl) | exact rfl)); (· (repeat (first | with_reducible exact Upd.here | with_reducible apply Upd.there))); (· exact rfl); (· exact rfl); (· exact rfl); (· exact rfl); intro H1 hB)
      | (apply bx_alloc; (· exact rfl); (· exact zero48); (· (first | (dsimp only [putD, DV.cells, DH.new_next, DH.set_next, List.length_cons, List.length_nil, Nat.reduceAdd, List.set_cons_zero, List.set_cons_succ, getD_zero, getD_succ, fieldAt_zero, fieldAt_succ, thenD, blockD, retR, Sv.cells]; done) | (dsimp only [putD, DV.cells, DH.new_next, DH.set_next, List.length_cons, List.length_nil, Nat.reduceAdd, List.set_cons_zero, List.set_cons_succ, getD_zero, getD_succ, fieldAt_zero, fieldAt_succ, thenD, blockD, retR, Sv.cells]; exact rfl) | exact rfl)); (· exact rfl); (· exact rfl); (· assumption); intro b1 H1 hB)
      | (apply bx_alloc; (· exact rfl); (· exact zero66); (· (first | (dsimp only [putD, DV.cells, DH.new_next, DH.set_next, List.length_cons, List.length_nil, Nat.reduceAdd, List.set_cons_zero, List.set_cons_succ, getD_zero, getD_succ, fieldAt_zero, fieldAt_succ, thenD, blockD, retR, Sv.cells]; done) | (dsimp only [putD, DV.cells, DH.new_next, DH.set_next, List.length_cons, List.length_nil, Nat.reduceAdd, List.set_cons_zero, List.set_cons_succ, getD_zero, getD_succ, fieldAt_zero, fieldAt_succ, thenD, blockD, retR, Sv.cells]; exact rfl) | exact rfl)); (· exact rfl); (· exact rfl); (· assumption); intro b1 H1 hB)
      | (apply op_told; (· exact rfl); (· exact hwc))
      | (apply op_at; (· exact opD_rem rfl rfl rfl (by decide) hcm))
      | (apply bx_loadA; (· exact rfl); (· exact rfl); (· assumption); (· exact hloc); (· exact hobj); (· exact hrk); (· exact part66 _ _ _ _))
      | (apply op_index_at; (· exact rfl); (· exact rfl); (· exact rfl); (· with_reducible exact hin); (· exact rfl); (· exact rfl))
      | (apply op_at; (· exact opD_rem rfl rfl rfl (by decide) hmod))
      | (apply bx_maplen; (· exact rfl); (· exact rfl); (· exact Try.underlying64); (· assumption); (· (repeat (first | with_reducible exact At.here | with_reducible apply At.there))))
      | (apply op_len_b; (· exact rfl); (· exact rfl); (· assumption); (· (repeat (first | with_reducible exact InF.here | with_reducible assumption | with_reducible apply InF.there))))
      | (apply op_told; (· exact rfl); (· exact hwk))
      | (apply op_told; (· exact rfl); (· exact hwb))
      | (apply op_told; (· exact rfl); (· exact hwd))
      | (apply op_at; (· exact opD_neqb rfl rfl rfl rfl))
      | (apply op_at; (· exact rfl))
      | fail)
    have hB := hB.drop1.drop1.one
    refine ⟨rfl, ⟨_, _, _, k + 1, _, q.post b ci 1 d 7, M, junk_facts (⟨by omega, hord', hB⟩) rfl rfl⟩, ?_⟩
    show n - ((k + 1 : Nat) : Int).toNat < n - k
    omega
end Go.Det.Q

/- KernelOrders: a round in which something is cancelled. -/
namespace Go.Det.Q
open Go Go.Det Go.Proofs
set_option maxRecDepth 4000
set_option maxHeartbeats 16000000
set_option linter.unusedVariables false
set_option linter.unusedSimpArgs false
theorem cancel10 {H Hk : DH} {n c : Nat} {ex : Bool} {hz : Int} {b6 b8 k : Nat} {sq : Sv} {q : Kq} {M : List Item} {J : Nat → DV} {loc i0 : Nat} {ro : Bool} {rs : List (List DV)} {a b cc d : Int} (hn : n ≤ 120) (hlt : k < n) (hh : 0 ≤ hz ∧ hz ≤ 65535) (hord : Ord q M hz k) (hB : Bx H Hk [(b8, .map (thereE M)), (b6, (.rows false 4 [[sq.dv, .int .u64 q.nx, .int .i64 q.now, .int .i64 q.hor]]))] [Is sq.dv q.l]) (hloc : loc < H.next) (hobj : H.obj loc = some (.rows ro 4 rs)) (hrow : rs[i0 + k]? = some [.int .u8 a, .int .u16 b, .int .u8 cc, .int .u8 d]) (ha : 0 ≤ a ∧ a ≤ 255) (hb' : 0 ≤ b ∧ b ≤ 65535) (hcc : 0 ≤ cc ∧ cc ≤ 255) (hd : 0 ≤ d ∧ d ≤ 255) (hmod : a.tmod 4 = 2) : DWL Try.prog Try.f10 ⟨(.sl (some (loc, i0, 4)) n c ex :: .int .u16 hz :: J 2 :: J 3 :: .bool false :: .bool true :: .ptr (some (b6, 0, 0)) :: J 7 :: .map (some b8) :: J 9 :: J 10 :: J 11 :: J 12 :: J 13 :: J 14 :: J 15 :: J 16 :: J 17 :: J 18 :: J 19 :: J 20 :: J 21 :: J 22 :: J 23 :: J 24 :: J 25 :: J 26 :: J 27 :: J 28 :: J 29 :: J 30 :: J 31 :: J 32 :: J 33 :: J 34 :: J 35 :: J 36 :: J 37 :: J 38 :: J 39 :: J 40 :: J 41 :: J 42 :: J 43 :: J 44 :: .sl (some (loc, i0, 4)) n c ex :: .int .i64 n :: .int .i64 (k : Int) :: J 48 :: J 49 :: J 50 :: J 51 :: J 52 :: J 53 :: J 54 :: J 55 :: J 56 :: J 57 :: J 58 :: J 59 :: J 60 :: J 61 :: J 62 :: J 63 :: J 64 :: J 65 :: J 66 :: J 67 :: J 68 :: J 69 :: J 70 :: J 71 :: J 72 :: J 73 :: J 74 :: J 75 :: J 76 :: J 77 :: J 78 :: J 79 :: J 80 :: J 81 :: J 82 :: J 83 :: J 84 :: J 85 :: J 86 :: J 87 :: J 88 :: J 89 :: J 90 :: J 91 :: J 92 :: J 93 :: J 94 :: J 95 :: J 96 :: J 97 :: J 98 :: J 99 :: J 100 :: J 101 :: J 102 :: J 103 :: J 104 :: J 105 :: J 106 :: J 107 :: J 108 :: J 109 :: J 110 :: J 111 :: J 112 :: J 113 :: J 114 :: J 115 :: J 116 :: J 117 :: J 118 :: J 119 :: J 120 :: J 121 :: J 122 :: J 123 :: J 124 :: J 125 :: J 126 :: J 127 :: J 128 :: J 129 :: J 130 :: J 131 :: J 132 :: J 133 :: J 134 :: J 135 :: J 136 :: J 137 :: J 138 :: J 139 :: J 140 :: J 141 :: J 142 :: J 143 :: J 144 :: J 145 :: J 146 :: J 147 :: J 148 :: J 149 :: J 150 :: J 151 :: J 152 :: J 153 :: J 154 :: J 155 :: J 156 :: J 157 :: J 158 :: J 159 :: J 160 :: J 161 :: J 162 :: J 163 :: J 164 :: J 165 :: J 166 :: J 167 :: J 168 :: J 169 :: J 170 :: J 171 :: J 172 :: J 173 :: J 174 :: J 175 :: J 176 :: J 177 :: J 178 :: J 179 :: J 180 :: J 181 :: J 182 :: J 183 :: J 184 :: J 185 :: J 186 :: J 187 :: J 188 :: J 189 :: J 190 :: J 191 :: J 192 :: J 193 :: J 194 :: J 195 :: J 196 :: J 197 :: J 198 :: J 199 :: J 200 :: J 201 :: J 202 :: J 203 :: J 204 :: J 205 :: J 206 :: J 207 :: J 208 :: J 209 :: J 210 :: J 211 :: J 212 :: J 213 :: J 214 :: J 215 :: J 216 :: J 217 :: J 218 :: J 219 :: J 220 :: J 221 :: J 222 :: J 223 :: J 224 :: []), Hk⟩ (Done10 H (some (loc, i0, 4)) n c ex hz k) := by
  have hrk : rs[i0 + ((k : Int)).toNat]? = some [.int .u8 a, .int .u16 b, .int .u8 cc, .int .u8 d] := by rw [Int.toNat_natCast]; exact hrow
  have hc : decide ((k : Int) < (n : Int)) = true := by simp [hlt]
  have hin : 0 ≤ (k : Int) ∧ (k : Int) < (n : Int) := by omega
  have hwk := congrArg (DV.int .i64) (wrapNat (k := k) (by omega))
  have hwb : DV.int .i64 (IntKind.i64.wrap b) = .int .i64 b := by rw [wrapI (by omega)]
  have hwd : DV.int .i64 (IntKind.i64.wrap d) = .int .i64 d := by rw [wrapI (by omega)]
  have hwu : DV.int .u64 (IntKind.u64.wrap d) = .int .u64 d := by rw [wrapU (by omega) (by omega)]
  have hw1 : DV.int .i64 (IntKind.i64.wrap hz) = .int .i64 hz := by rw [wrapI (by omega)]
  have hoq : q.ok := hord.ok (by omega)
  refine dwl_enter rfl rfl ?_
  rcases ord_cancel hord d with ⟨he, i, x, hs, hfind, hord'⟩ | ⟨he, hfind, hord'⟩
  · have hdrop := there_drop M i
    have m1 : (!(true == (q.cancelE d == 0))) = false := by rw [he]; rfl
    have m4 : decide ((q.cancel d).now < q.now) = false := by show decide (q.now < q.now) = false; simp
    have n7 := hord'.checkE
    have n8 := hord'.lenE
    repeat' (first
      | dsimp only [putD, DV.cells, DH.new_next, DH.set_next, List.length_cons, List.length_nil, Nat.reduceAdd, List.set_cons_zero, List.set_cons_succ, getD_zero, getD_succ, fieldAt_zero, fieldAt_succ, thenD, blockD, retR]
      | apply dw_seq
      | (apply dw_region okK5)
      | (apply dw_cond_t; (· exact rfl); (· (first | with_reducible assumption | with_reducible rfl | decide)))
      | (apply dw_cond_f; (· exact rfl); (· (first | with_reducible assumption | with_reducible rfl | decide)))
      | apply dw_block
      | apply dw_skip
      | apply ops_nil
      | (apply ops_plain; (· exact rfl))
      | (apply ops_on; (· exact rfl); (· exact rfl); (· (first | with_reducible assumption | with_reducible rfl | decide)))
      | (apply op_call; (· exact rfl); (· exact rfl); (· exact rfl); (apply cancel_b; (· assumption); (· (repeat (first | with_reducible exact InF.here | with_reducible assumption | with_reducible apply InF.there))); (· (repeat (first | assumption | apply Kq.post_ok | apply Kq.rpost_ok | apply Kq.cancel_ok | apply Kq.rcancel_ok | apply Kq.step_ok | apply Kq.rstep_ok | apply Kq.tidy_ok | apply kNew_ok))); intro s1 H1 hB))
      | (apply op_call; (· exact rfl); (· exact rfl); (· exact rfl); (apply check_b; (· assumption); (· (repeat (first | with_reducible exact InF.here | with_reducible assumption | with_reducible apply InF.there)))))
      | (apply op_pick_f; (· exact rfl); (· exact rfl); (· (first | with_reducible assumption | with_reducible rfl | decide)); (· exact rfl))
      | (apply bx_load0; (· exact rfl); (· exact rfl); (· assumption); (· (repeat (first | with_reducible exact At.here | with_reducible apply At.there))); (· (first | exact part48 _ _ _ _ | exact part26 _ | exact part26' _ _ _ _ _ _ | exact part66 _ _ _ _ | exact rfl)))
      | (apply bx_store0; (· exact rfl); (· exact rfl); (· exact rfl); (· assumption); (· (first | (dsimp only [putD, DV.cells, DH.new_next, DH.set_next, List.length_cons, List.length_nil, Nat.reduceAdd, List.set_cons_zero, List.set_cons_succ, getD_zero, getD_succ, fieldAt_zero, fieldAt_succ, thenD, blockD, retR, Sv.cells]; done) | (dsimp only [putD, DV.cells, DH.new_next, DH.set_next, List.length_cons, List.length_nil, Nat.reduceAdd, List.set_cons_zero, List.set_cons_succ, getD_zero, getD_succ, fieldAt_zero, fieldAt_succ, thenD, blockD, retR, Sv.cells]; exact rfl) | exact rfl)); (· (repeat (first | with_reducible exact Upd.here | with_reducible apply Upd.there))); (· exact rfl); (· exact rfl); (· exact rfl); (· exact rfl); intro H1 hB)
      | (apply bx_alloc; (· exact rfl); (· exact zero48); (· (first | (dsimp only [putD, DV.cells, DH.new_next, DH.set_next, List.length_cons, List.length_nil, Nat.reduceAdd, List.set_cons_zero, List.set_cons_succ, getD_zero, getD_succ, fieldAt_zero, fieldAt_succ, thenD, blockD, retR, Sv.cells]; done) | (dsimp only [putD, DV.cells, DH.new_next, DH.set_next, List.length_cons, List.length_nil, Nat.reduceAdd, List.set_cons_zero, List.set_cons_succ, getD_zero, getD_succ, fieldAt_zero, fieldAt_succ, thenD, blockD, retR, Sv.cells]; exact rfl) | exact rfl)); (· exact rfl); (· exact rfl); (· assumption); intro b1 H1 hB)
      | (apply bx_alloc; (· exact rfl); (· exact zero26); (· (first | (dsimp only [putD, DV.cells, DH.new_next, DH.set_next, List.length_cons, List.length_nil, Nat.reduceAdd, List.set_cons_zero, List.set_cons_succ, getD_zero, getD_succ, fieldAt_zero, fieldAt_succ, thenD, blockD, retR, Sv.cells]; done) | (dsimp only [putD, DV.cells, DH.new_next, DH.set_next, List.length_cons, List.length_nil, Nat.reduceAdd, List.set_cons_zero, List.set_cons_succ, getD_zero, getD_succ, fieldAt_zero, fieldAt_succ, thenD, blockD, retR, Sv.cells]; exact rfl) | exact rfl)); (· exact rfl); (· exact rfl); (· assumption); intro b1 H1 hB)
      | (apply bx_alloc; (· exact rfl); (· exact zero66); (· (first | (dsimp only [putD, DV.cells, DH.new_next, DH.set_next, List.length_cons, List.length_nil, Nat.reduceAdd, List.set_cons_zero, List.set_cons_succ, getD_zero, getD_succ, fieldAt_zero, fieldAt_succ, thenD, blockD, retR, Sv.cells]; done) | (dsimp only [putD, DV.cells, DH.new_next, DH.set_next, List.length_cons, List.length_nil, Nat.reduceAdd, List.set_cons_zero, List.set_cons_succ, getD_zero, getD_succ, fieldAt_zero, fieldAt_succ, thenD, blockD, retR, Sv.cells]; exact rfl) | exact rfl)); (· exact rfl); (· exact rfl); (· assumption); intro b1 H1 hB)
      | (apply bx_delete1e; (· exact rfl); (· exact rfl); (· exact rfl); (· exact Try.underlying64); (· assumption); (· exact keyOk_int _); (· exact hfind); (· exact hdrop); (· (repeat (first | with_reducible exact Upd.here | with_reducible apply Upd.there))); intro H1 hB)
      | (apply bx_lookupT; (· exact rfl); (· exact rfl); (· exact rfl); (· exact Try.underlying64); (· assumption); (· (repeat (first | with_reducible exact At.here | with_reducible apply At.there))); (· exact keyOk_int _); (· exact hfind))
      | (apply bx_loadA; (· exact rfl); (· exact rfl); (· assumption); (· exact hloc); (· exact hobj); (· exact hrk); (· exact part66 _ _ _ _))
      | (apply op_index_at; (· exact rfl); (· exact rfl); (· exact rfl); (· with_reducible exact hin); (· exact rfl); (· exact rfl))
      | (apply op_at; (· exact opD_rem rfl rfl rfl (by decide) hmod))
      | (apply bx_maplen; (· exact rfl); (· exact rfl); (· exact Try.underlying64); (· assumption); (· (repeat (first | with_reducible exact At.here | with_reducible apply At.there))))
      | (apply op_len_b; (· exact rfl); (· exact rfl); (· assumption); (· (repeat (first | with_reducible exact InF.here | with_reducible assumption | with_reducible apply InF.there))))
      | (apply op_told; (· exact rfl); (· exact hwk))
      | (apply op_told; (· exact rfl); (· exact hwu))
      | (apply op_at; (· exact opD_neqb rfl rfl rfl rfl))
      | (apply op_at; (· exact rfl))
      | fail)
    have hB := hB.drop1.drop1.drop1.one
    refine ⟨rfl, ⟨_, _, _, k + 1, _, q.cancel d, M.eraseIdx i, junk_facts (⟨by omega, hord', hB⟩) rfl rfl⟩, ?_⟩
    show n - ((k + 1 : Nat) : Int).toNat < n - k
    omega
  · have m1 : (!(false == (q.cancelE d == 0))) = false := by rw [he]; rfl
    have m4 : decide ((q.cancel d).now < q.now) = false := by show decide (q.now < q.now) = false; simp
    have n7 := hord'.checkE
    have n8 := hord'.lenE
    repeat' (first
      | dsimp only [putD, DV.cells, DH.new_next, DH.set_next, List.length_cons, List.length_nil, Nat.reduceAdd, List.set_cons_zero, List.set_cons_succ, getD_zero, getD_succ, fieldAt_zero, fieldAt_succ, thenD, blockD, retR]
      | apply dw_seq
      | (apply dw_region okK5)
      | (apply dw_cond_t; (· exact rfl); (· (first | with_reducible assumption | with_reducible rfl | decide)))
      | (apply dw_cond_f; (· exact rfl); (· (first | with_reducible assumption | with_reducible rfl | decide)))
      | apply dw_block
      | apply dw_skip
      | apply ops_nil
      | (apply ops_plain; (· exact rfl))
      | (apply ops_on; (· exact rfl); (· exact rfl); (· (first | with_reducible assumption | with_reducible rfl | decide)))
      | (apply op_call; (· exact rfl); (· exact rfl); (· exact rfl); (apply cancel_b; (· assumption); (· (repeat (first | with_reducible exact InF.here | with_reducible assumption | with_reducible apply InF.there))); (· (repeat (first | assumption | apply Kq.post_ok | apply Kq.rpost_ok | apply Kq.cancel_ok | apply Kq.rcancel_ok | apply Kq.step_ok | apply Kq.rstep_ok | apply Kq.tidy_ok | apply kNew_ok))); intro s1 H1 hB))
      | (apply op_call; (· exact rfl); (· exact rfl); (· exact rfl); (apply check_b; (· assumption); (· (repeat (first | with_reducible exact InF.here | with_reducible assumption | with_reducible apply InF.there)))))
      | (apply op_pick_f; (· exact rfl); (· exact rfl); (· (first | with_reducible assumption | with_reducible rfl | decide)); (· exact rfl))
      | (apply bx_load0; (· exact rfl); (· exact rfl); (· assumption); (· (repeat (first | with_reducible exact At.here | with_reducible apply At.there))); (· (first | exact part48 _ _ _ _ | exact part26 _ | exact part26' _ _ _ _ _ _ | exact part66 _ _ _ _ | exact rfl)))
      | (apply bx_store0; (· exact rfl); (· exact rfl); (· exact rfl); (· assumption); (· (first | (dsimp only [putD, DV.cells, DH.new_next, DH.set_next, List.length_cons, List.length_nil, Nat.reduceAdd, List.set_cons_zero, List.set_cons_succ, getD_zero, getD_succ, fieldAt_zero, fieldAt_succ, thenD, blockD, retR, Sv.cells]; done) | (dsimp only [putD, DV.cells, DH.new_next, DH.set_next, List.length_cons, List.length_nil, Nat.reduceAdd, List.set_cons_zero, List.set_cons_succ, getD_zero, getD_succ, fieldAt_zero, fieldAt_succ, thenD, blockD, retR, Sv.cells]; exact rfl) | exact rfl)); (· (repeat (first | with_reducible exact Upd.here | with_reducible apply Upd.there))); (· exact rfl); (· exact rfl); (· exact rfl); (· exact rfl); intro H1 hB)
      | (apply bx_alloc; (· exact rfl); (· exact zero48); (· (first | (dsimp only [putD, DV.cells, DH.new_next, DH.set_next, List.length_cons, List.length_nil, Nat.reduceAdd, List.set_cons_zero, List.set_cons_succ, getD_zero, getD_succ, fieldAt_zero, fieldAt_succ, thenD, blockD, retR, Sv.cells]; done) | (dsimp only [putD, DV.cells, DH.new_next, DH.set_next, List.length_cons, List.length_nil, Nat.reduceAdd, List.set_cons_zero, List.set_cons_succ, getD_zero, getD_succ, fieldAt_zero, fieldAt_succ, thenD, blockD, retR, Sv.cells]; exact rfl) | exact rfl)); (· exact rfl); (· exact rfl); (· assumption); intro b1 H1 hB)
      | (apply bx_alloc; (· exact rfl); (· exact zero26); (· (first | (dsimp only [putD, DV.cells, DH.new_next, DH.set_next, List.length_cons, List.length_nil, Nat.reduceAdd, List.set_cons_zero, List.set_cons_succ, getD_zero, getD_succ, fieldAt_zero, fieldAt_succ, thenD, blockD, retR, Sv.cells]; done) | (dsimp only [putD, DV.cells, DH.new_next, DH.set_next, List.length_cons, List.length_nil, Nat.reduceAdd, List.set_cons_zero, List.set_cons_succ, getD_zero, getD_succ, fieldAt_zero, fieldAt_succ, thenD, blockD, retR, Sv.cells]; exact rfl) | exact rfl)); (· exact rfl); (· exact rfl); (· assumption); intro b1 H1 hB)
      | (apply bx_alloc; (· exact rfl); (· exact zero66); (· (first | (dsimp only [putD, DV.cells, DH.new_next, DH.set_next, List.length_cons, List.length_nil, Nat.reduceAdd, List.set_cons_zero, List.set_cons_succ, getD_zero, getD_succ, fieldAt_zero, fieldAt_succ, thenD, blockD, retR, Sv.cells]; done) | (dsimp only [putD, DV.cells, DH.new_next, DH.set_next, List.length_cons, List.length_nil, Nat.reduceAdd, List.set_cons_zero, List.set_cons_succ, getD_zero, getD_succ, fieldAt_zero, fieldAt_succ, thenD, blockD, retR, Sv.cells]; exact rfl) | exact rfl)); (· exact rfl); (· exact rfl); (· assumption); intro b1 H1 hB)
      | (apply bx_delete0; (· exact rfl); (· exact rfl); (· exact rfl); (· exact Try.underlying64); (· assumption); (· (repeat (first | with_reducible exact At.here | with_reducible apply At.there))); (· exact keyOk_int _); (· exact hfind); intro H1 hB)
      | (apply bx_lookup0T; (· exact rfl); (· exact rfl); (· exact rfl); (· exact Try.underlying64); (· assumption); (· (repeat (first | with_reducible exact At.here | with_reducible apply At.there))); (· exact keyOk_int _); (· exact hfind); (· exact zero26))
      | (apply bx_loadA; (· exact rfl); (· exact rfl); (· assumption); (· exact hloc); (· exact hobj); (· exact hrk); (· exact part66 _ _ _ _))
      | (apply op_index_at; (· exact rfl); (· exact rfl); (· exact rfl); (· with_reducible exact hin); (· exact rfl); (· exact rfl))
      | (apply op_at; (· exact opD_rem rfl rfl rfl (by decide) hmod))
      | (apply bx_maplen; (· exact rfl); (· exact rfl); (· exact Try.underlying64); (· assumption); (· (repeat (first | with_reducible exact At.here | with_reducible apply At.there))))
      | (apply op_len_b; (· exact rfl); (· exact rfl); (· assumption); (· (repeat (first | with_reducible exact InF.here | with_reducible assumption | with_reducible apply InF.there))))
      | (apply op_told; (· exact rfl); (· exact hwk))
      | (apply op_told; (· exact rfl); (· exact hwu))
      | (apply op_at; (· exact opD_neqb rfl rfl rfl rfl))
      | (apply op_at; (· exact rfl))
      | fail)
    have hB := hB.drop1.drop1.drop1.one
    refine ⟨rfl, ⟨_, _, _, k + 1, _, q.cancel d, M, junk_facts (⟨by omega, hord', hB⟩) rfl rfl⟩, ?_⟩
    show n - ((k + 1 : Nat) : Int).toNat < n - k
    omega
end Go.Det.Q

/- KernelOrders: a round in which something comes. -/
namespace Go.Det.Q
open Go Go.Det Go.Proofs
set_option maxRecDepth 4000
set_option maxHeartbeats 16000000
set_option linter.unusedVariables false
set_option linter.unusedSimpArgs false
theorem hold19 {P : Program} {r1 : Nat} {ops : Array Oper} {dr : Bool} {c : Code} {st : DSt} {Q : DExit → DSt → Prop} (h : Hold (DW P (.seq (.region r1 ops dr) c) st Q)) : DW P (.seq (.region r1 ops dr) c) st Q := h.h
theorem step10_none {H Hk : DH} {n c : Nat} {ex : Bool} {hz : Int} {b6 b8 k : Nat} {sq : Sv} {q : Kq} {M : List Item} {J : Nat → DV} {loc i0 : Nat} {ro : Bool} {rs : List (List DV)} {a b cc d : Int} (hn : n ≤ 120) (hlt : k < n) (hh : 0 ≤ hz ∧ hz ≤ 65535) (hord : Ord q M hz k) (hB : Bx H Hk [(b8, .map (thereE M)), (b6, (.rows false 4 [[sq.dv, .int .u64 q.nx, .int .i64 q.now, .int .i64 q.hor]]))] [Is sq.dv q.l]) (hloc : loc < H.next) (hobj : H.obj loc = some (.rows ro 4 rs)) (hrow : rs[i0 + k]? = some [.int .u8 a, .int .u16 b, .int .u8 cc, .int .u8 d]) (ha : 0 ≤ a ∧ a ≤ 255) (hb' : 0 ≤ b ∧ b ≤ 65535) (hcc : 0 ≤ cc ∧ cc ≤ 255) (hd : 0 ≤ d ∧ d ≤ 255) (hmod : a.tmod 4 = 3) (he : q.stepE = 8) (hM : M = []) (hord' : Ord q.step M hz (k + 1)) (hsame : q.step = q) : DWL Try.prog Try.f10 ⟨(.sl (some (loc, i0, 4)) n c ex :: .int .u16 hz :: J 2 :: J 3 :: .bool false :: .bool true :: .ptr (some (b6, 0, 0)) :: J 7 :: .map (some b8) :: J 9 :: J 10 :: J 11 :: J 12 :: J 13 :: J 14 :: J 15 :: J 16 :: J 17 :: J 18 :: J 19 :: J 20 :: J 21 :: J 22 :: J 23 :: J 24 :: J 25 :: J 26 :: J 27 :: J 28 :: J 29 :: J 30 :: J 31 :: J 32 :: J 33 :: J 34 :: J 35 :: J 36 :: J 37 :: J 38 :: J 39 :: J 40 :: J 41 :: J 42 :: J 43 :: J 44 :: .sl (some (loc, i0, 4)) n c ex :: .int .i64 n :: .int .i64 (k : Int) :: J 48 :: J 49 :: J 50 :: J 51 :: J 52 :: J 53 :: J 54 :: J 55 :: J 56 :: J 57 :: J 58 :: J 59 :: J 60 :: J 61 :: J 62 :: J 63 :: J 64 :: J 65 :: J 66 :: J 67 :: J 68 :: J 69 :: J 70 :: J 71 :: J 72 :: J 73 :: J 74 :: J 75 :: J 76 :: J 77 :: J 78 :: J 79 :: J 80 :: J 81 :: J 82 :: J 83 :: J 84 :: J 85 :: J 86 :: J 87 :: J 88 :: J 89 :: J 90 :: J 91 :: J 92 :: J 93 :: J 94 :: J 95 :: J 96 :: J 97 :: J 98 :: J 99 :: J 100 :: J 101 :: J 102 :: J 103 :: J 104 :: J 105 :: J 106 :: J 107 :: J 108 :: J 109 :: J 110 :: J 111 :: J 112 :: J 113 :: J 114 :: J 115 :: J 116 :: J 117 :: J 118 :: J 119 :: J 120 :: J 121 :: J 122 :: J 123 :: J 124 :: J 125 :: J 126 :: J 127 :: J 128 :: J 129 :: J 130 :: J 131 :: J 132 :: J 133 :: J 134 :: J 135 :: J 136 :: J 137 :: J 138 :: J 139 :: J 140 :: J 141 :: J 142 :: J 143 :: J 144 :: J 145 :: J 146 :: J 147 :: J 148 :: J 149 :: J 150 :: J 151 :: J 152 :: J 153 :: J 154 :: J 155 :: J 156 :: J 157 :: J 158 :: J 159 :: J 160 :: J 161 :: J 162 :: J 163 :: J 164 :: J 165 :: J 166 :: J 167 :: J 168 :: J 169 :: J 170 :: J 171 :: J 172 :: J 173 :: J 174 :: J 175 :: J 176 :: J 177 :: J 178 :: J 179 :: J 180 :: J 181 :: J 182 :: J 183 :: J 184 :: J 185 :: J 186 :: J 187 :: J 188 :: J 189 :: J 190 :: J 191 :: J 192 :: J 193 :: J 194 :: J 195 :: J 196 :: J 197 :: J 198 :: J 199 :: J 200 :: J 201 :: J 202 :: J 203 :: J 204 :: J 205 :: J 206 :: J 207 :: J 208 :: J 209 :: J 210 :: J 211 :: J 212 :: J 213 :: J 214 :: J 215 :: J 216 :: J 217 :: J 218 :: J 219 :: J 220 :: J 221 :: J 222 :: J 223 :: J 224 :: []), Hk⟩ (Done10 H (some (loc, i0, 4)) n c ex hz k) := by
  have hrk : rs[i0 + ((k : Int)).toNat]? = some [.int .u8 a, .int .u16 b, .int .u8 cc, .int .u8 d] := by rw [Int.toNat_natCast]; exact hrow
  have hc : decide ((k : Int) < (n : Int)) = true := by simp [hlt]
  have hin : 0 ≤ (k : Int) ∧ (k : Int) < (n : Int) := by omega
  have hwk := congrArg (DV.int .i64) (wrapNat (k := k) (by omega))
  have hwb : DV.int .i64 (IntKind.i64.wrap b) = .int .i64 b := by rw [wrapI (by omega)]
  have hwd : DV.int .i64 (IntKind.i64.wrap d) = .int .i64 d := by rw [wrapI (by omega)]
  have hwu : DV.int .u64 (IntKind.u64.wrap d) = .int .u64 d := by rw [wrapU (by omega) (by omega)]
  have hw1 : DV.int .i64 (IntKind.i64.wrap hz) = .int .i64 hz := by rw [wrapI (by omega)]
  have hoq : q.ok := hord.ok (by omega)
  refine dwl_enter rfl rfl ?_
  have m1 : (q.stepE != 0) = true := by rw [he]; rfl
  have m4 : decide (q.step.now < q.now) = false := by rw [hsame]; simp
  have hbig : ∀ z ∈ M, hz < z.a := fun z h => by rw [hM] at h; cases h
  have m2 : (q.stepE == 8) = true := by rw [he]; rfl
  have m3 : decide (((thereE M).length : Int) > 0) = false := by rw [hM]; rfl
  have m5 : (q.stepE != 8) = false := by rw [he]; rfl
  have n7 := hord'.checkE
  have n8 := hord'.lenE
  repeat' (first
    | dsimp only [putD, DV.cells, DH.new_next, DH.set_next, List.length_cons, List.length_nil, Nat.reduceAdd, List.set_cons_zero, List.set_cons_succ, getD_zero, getD_succ, fieldAt_zero, fieldAt_succ, thenD, blockD, retR]
    | (refine hold19 (r1 := 19) ?_)
    | apply dw_seq
    | (apply dw_region okK5)
    | (apply dw_cond_t; (· exact rfl); (· (first | with_reducible assumption | with_reducible rfl | decide)))
    | (apply dw_cond_f; (· exact rfl); (· (first | with_reducible assumption | with_reducible rfl | decide)))
    | apply dw_block
    | apply dw_skip
    | apply ops_nil
    | (apply ops_plain; (· exact rfl))
    | (apply ops_on; (· exact rfl); (· exact rfl); (· (first | with_reducible assumption | with_reducible rfl | decide)))
    | (apply ops_off1; (· exact rfl); (· exact rfl); (· (first | with_reducible assumption | with_reducible rfl | decide)))
    | (apply op_call; (· exact rfl); (· exact rfl); (· exact rfl); (apply step_b; (· assumption); (· (repeat (first | with_reducible exact InF.here | with_reducible assumption | with_reducible apply InF.there))); (· (repeat (first | assumption | apply Kq.post_ok | apply Kq.rpost_ok | apply Kq.cancel_ok | apply Kq.rcancel_ok | apply Kq.step_ok | apply Kq.rstep_ok | apply Kq.tidy_ok | apply kNew_ok))); intro s1 H1 hB))
    | (apply op_pick_t; (· exact rfl); (· exact rfl); (· (first | with_reducible assumption | with_reducible rfl | decide)); (· exact rfl))
    | (apply op_pick_f; (· exact rfl); (· exact rfl); (· (first | with_reducible assumption | with_reducible rfl | decide)); (· exact rfl))
    | (apply bx_load0; (· exact rfl); (· exact rfl); (· assumption); (· (repeat (first | with_reducible exact At.here | with_reducible apply At.there))); (· (first | exact part48 _ _ _ _ | exact part26 _ | exact part26' _ _ _ _ _ _ | exact part66 _ _ _ _ | exact rfl)))
    | (apply bx_store0; (· exact rfl); (· exact rfl); (· exact rfl); (· assumption); (· (first | (dsimp only [putD, DV.cells, DH.new_next, DH.set_next, List.length_cons, List.length_nil, Nat.reduceAdd, List.set_cons_zero, List.set_cons_succ, getD_zero, getD_succ, fieldAt_zero, fieldAt_succ, thenD, blockD, retR, Sv.cells]; done) | (dsimp only [putD, DV.cells, DH.new_next, DH.set_next, List.length_cons, List.length_nil, Nat.reduceAdd, List.set_cons_zero, List.set_cons_succ, getD_zero, getD_succ, fieldAt_zero, fieldAt_succ, thenD, blockD, retR, Sv.cells]; exact rfl) | exact rfl)); (· (repeat (first | with_reducible exact Upd.here | with_reducible apply Upd.there))); (· exact rfl); (· exact rfl); (· exact rfl); (· exact rfl); intro H1 hB)
    | (apply bx_alloc; (· exact rfl); (· exact zero48); (· (first | (dsimp only [putD, DV.cells, DH.new_next, DH.set_next, List.length_cons, List.length_nil, Nat.reduceAdd, List.set_cons_zero, List.set_cons_succ, getD_zero, getD_succ, fieldAt_zero, fieldAt_succ, thenD, blockD, retR, Sv.cells]; done) | (dsimp only [putD, DV.cells, DH.new_next, DH.set_next, List.length_cons, List.length_nil, Nat.reduceAdd, List.set_cons_zero, List.set_cons_succ, getD_zero, getD_succ, fieldAt_zero, fieldAt_succ, thenD, blockD, retR, Sv.cells]; exact rfl) | exact rfl)); (· exact rfl); (· exact rfl); (· assumption); intro b48 H1 hB)
    | (apply bx_alloc; (· exact rfl); (· exact zero26); (· (first | (dsimp only [putD, DV.cells, DH.new_next, DH.set_next, List.length_cons, List.length_nil, Nat.reduceAdd, List.set_cons_zero, List.set_cons_succ, getD_zero, getD_succ, fieldAt_zero, fieldAt_succ, thenD, blockD, retR, Sv.cells]; done) | (dsimp only [putD, DV.cells, DH.new_next, DH.set_next, List.length_cons, List.length_nil, Nat.reduceAdd, List.set_cons_zero, List.set_cons_succ, getD_zero, getD_succ, fieldAt_zero, fieldAt_succ, thenD, blockD, retR, Sv.cells]; exact rfl) | exact rfl)); (· exact rfl); (· exact rfl); (· assumption); intro b26 H1 hB)
    | (apply bx_alloc; (· exact rfl); (· exact zero66); (· (first | (dsimp only [putD, DV.cells, DH.new_next, DH.set_next, List.length_cons, List.length_nil, Nat.reduceAdd, List.set_cons_zero, List.set_cons_succ, getD_zero, getD_succ, fieldAt_zero, fieldAt_succ, thenD, blockD, retR, Sv.cells]; done) | (dsimp only [putD, DV.cells, DH.new_next, DH.set_next, List.length_cons, List.length_nil, Nat.reduceAdd, List.set_cons_zero, List.set_cons_succ, getD_zero, getD_succ, fieldAt_zero, fieldAt_succ, thenD, blockD, retR, Sv.cells]; exact rfl) | exact rfl)); (· exact rfl); (· exact rfl); (· assumption); intro b66 H1 hB)
    | (apply bx_loadA; (· exact rfl); (· exact rfl); (· assumption); (· exact hloc); (· exact hobj); (· exact hrk); (· exact part66 _ _ _ _))
    | (apply op_index_at; (· exact rfl); (· exact rfl); (· exact rfl); (· with_reducible exact hin); (· exact rfl); (· exact rfl))
    | (apply op_at; (· exact opD_rem rfl rfl rfl (by decide) hmod))
    | (apply bx_maplen; (· exact rfl); (· exact rfl); (· exact Try.underlying64); (· assumption); (· (repeat (first | with_reducible exact At.here | with_reducible apply At.there))))
    | (apply op_at; (· exact rfl))
    | fail)
  refine ⟨?_⟩
  refine dw_range_map okK5 (r1 := 19) (n := 225) (m := b8) (es := thereE M) rfl rfl rfl rfl rfl rfl rfl rfl rfl rfl rfl rfl rfl rfl rfl rfl Try.underlying64 (codeOk_spec mixed rfl) rfl (by decide) (by decide) (by decide) (by decide) (by decide) (by decide) (by decide) rfl (Bx.get (by assumption) (by (repeat (first | with_reducible exact At.here | with_reducible apply At.there)))) (fun st => ∃ (Hj : DH), ∃ J : Nat → DV, (Above (hide H1 b8) Hj) ∧ st = ⟨(.sl (some (loc, i0, 4)) n c ex :: .int .u16 hz :: J 2 :: J 3 :: .bool false :: .bool true :: .ptr (some (b6, 0, 0)) :: J 7 :: .map (some b8) :: J 9 :: J 10 :: .int .i64 q.now :: J 12 :: J 13 :: J 14 :: J 15 :: J 16 :: J 17 :: J 18 :: J 19 :: J 20 :: J 21 :: .ptr (some (b48, 0, 0)) :: .ptr (some (b26, 0, 0)) :: .int .i64 q.stepE :: J 25 :: J 26 :: J 27 :: J 28 :: J 29 :: J 30 :: J 31 :: J 32 :: J 33 :: J 34 :: J 35 :: J 36 :: J 37 :: J 38 :: J 39 :: J 40 :: J 41 :: J 42 :: J 43 :: J 44 :: .sl (some (loc, i0, 4)) n c ex :: .int .i64 n :: .int .i64 (k : Int) :: J 48 :: J 49 :: J 50 :: J 51 :: J 52 :: J 53 :: J 54 :: J 55 :: J 56 :: J 57 :: J 58 :: J 59 :: J 60 :: J 61 :: J 62 :: J 63 :: J 64 :: J 65 :: J 66 :: J 67 :: J 68 :: J 69 :: J 70 :: J 71 :: J 72 :: J 73 :: J 74 :: J 75 :: J 76 :: J 77 :: J 78 :: J 79 :: .ptr (some (H1.next, 0, 0)) :: J 81 :: J 82 :: J 83 :: J 84 :: J 85 :: J 86 :: J 87 :: J 88 :: J 89 :: J 90 :: J 91 :: J 92 :: J 93 :: J 94 :: J 95 :: J 96 :: J 97 :: J 98 :: J 99 :: J 100 :: J 101 :: J 102 :: J 103 :: J 104 :: J 105 :: J 106 :: J 107 :: J 108 :: J 109 :: J 110 :: J 111 :: J 112 :: J 113 :: J 114 :: J 115 :: J 116 :: J 117 :: J 118 :: J 119 :: J 120 :: J 121 :: J 122 :: J 123 :: J 124 :: J 125 :: J 126 :: J 127 :: J 128 :: J 129 :: J 130 :: J 131 :: J 132 :: J 133 :: J 134 :: J 135 :: J 136 :: J 137 :: J 138 :: J 139 :: J 140 :: J 141 :: J 142 :: J 143 :: J 144 :: J 145 :: J 146 :: J 147 :: J 148 :: J 149 :: J 150 :: J 151 :: J 152 :: J 153 :: J 154 :: J 155 :: J 156 :: J 157 :: J 158 :: J 159 :: J 160 :: J 161 :: J 162 :: J 163 :: J 164 :: J 165 :: J 166 :: J 167 :: J 168 :: J 169 :: J 170 :: J 171 :: J 172 :: J 173 :: J 174 :: J 175 :: J 176 :: J 177 :: J 178 :: J 179 :: J 180 :: J 181 :: J 182 :: J 183 :: J 184 :: J 185 :: J 186 :: J 187 :: J 188 :: J 189 :: J 190 :: J 191 :: J 192 :: J 193 :: J 194 :: J 195 :: J 196 :: J 197 :: J 198 :: J 199 :: J 200 :: J 201 :: J 202 :: J 203 :: J 204 :: J 205 :: J 206 :: J 207 :: J 208 :: J 209 :: J 210 :: J 211 :: J 212 :: J 213 :: J 214 :: J 215 :: J 216 :: J 217 :: J 218 :: J 219 :: J 220 :: J 221 :: J 222 :: J 223 :: J 224 :: []), Hj⟩) ?_ ?_ ?_ ?_
  · rintro st1 ⟨Hj, J2, habj, rfl⟩; exact ⟨rfl, rfl, habj⟩
  · exact ⟨_, junk_facts (Above.refl _) rfl rfl⟩
  · rintro st1 kd vd ⟨Hj, J2, habj, rfl⟩ hmem
    obtain ⟨z, hzM, rfl, rfl⟩ := there_mem hmem
    have hza : decide (z.a ≤ hz) = false := by have := hbig z hzM; simp only [decide_eq_false_iff_not]; omega
    have hBj : Bx Hj Hj [] [] := Bx.init (fun f hf => by cases hf)
    repeat' (first
      | dsimp only [putD, DV.cells, DH.new_next, DH.set_next, List.length_cons, List.length_nil, Nat.reduceAdd, List.set_cons_zero, List.set_cons_succ, getD_zero, getD_succ, fieldAt_zero, fieldAt_succ, thenD, blockD, retR]
      | apply dwp_seq
      | apply dwp_region
      | apply ops_nil
      | (apply ops_plain; (· exact rfl))
      | (apply bx_load0; (· exact rfl); (· exact rfl); (· assumption); (· (repeat (first | with_reducible exact At.here | with_reducible apply At.there))); (· (first | exact part48 _ _ _ _ | exact part26 _ | exact part26' _ _ _ _ _ _ | exact part66 _ _ _ _ | exact rfl)))
      | (apply bx_store0; (· exact rfl); (· exact rfl); (· exact rfl); (· assumption); (· (first | (dsimp only [putD, DV.cells, DH.new_next, DH.set_next, List.length_cons, List.length_nil, Nat.reduceAdd, List.set_cons_zero, List.set_cons_succ, getD_zero, getD_succ, fieldAt_zero, fieldAt_succ, thenD, blockD, retR, Sv.cells]; done) | (dsimp only [putD, DV.cells, DH.new_next, DH.set_next, List.length_cons, List.length_nil, Nat.reduceAdd, List.set_cons_zero, List.set_cons_succ, getD_zero, getD_succ, fieldAt_zero, fieldAt_succ, thenD, blockD, retR, Sv.cells]; exact rfl) | exact rfl)); (· (repeat (first | with_reducible exact Upd.here | with_reducible apply Upd.there))); (· exact rfl); (· exact rfl); (· exact rfl); (· exact rfl); intro H1 hB)
      | (apply bx_alloc; (· exact rfl); (· exact zero26); (· (first | (dsimp only [putD, DV.cells, DH.new_next, DH.set_next, List.length_cons, List.length_nil, Nat.reduceAdd, List.set_cons_zero, List.set_cons_succ, getD_zero, getD_succ, fieldAt_zero, fieldAt_succ, thenD, blockD, retR, Sv.cells]; done) | (dsimp only [putD, DV.cells, DH.new_next, DH.set_next, List.length_cons, List.length_nil, Nat.reduceAdd, List.set_cons_zero, List.set_cons_succ, getD_zero, getD_succ, fieldAt_zero, fieldAt_succ, thenD, blockD, retR, Sv.cells]; exact rfl) | exact rfl)); (· exact rfl); (· exact rfl); (· assumption); intro b1 H1 hB)
      | (apply op_told; (· exact rfl); (· exact hw1))
      | (apply op_at; (· exact rfl))
      | (apply dwp_cond_f; (· exact rfl); (· (first | with_reducible assumption | with_reducible rfl | decide)))
      | apply dwp_skip
      | fail)
    exact ⟨.inl rfl, ⟨_, junk_facts (habj.trans hB.ab) rfl rfl⟩⟩
  rintro st1 ⟨Hj, J2, habj, rfl⟩
  have hB := hB.grow (habj.unhide (hB.get (o := .map (thereE M)) (by (repeat (first | with_reducible exact At.here | with_reducible apply At.there)))))
  generalize hH : Hj.set b8 (some (.map (thereE M))) = H1 at hB ⊢
  clear hH
  repeat' (first
    | dsimp only [putD, DV.cells, DH.new_next, DH.set_next, List.length_cons, List.length_nil, Nat.reduceAdd, List.set_cons_zero, List.set_cons_succ, getD_zero, getD_succ, fieldAt_zero, fieldAt_succ, thenD, blockD, retR]
    | apply dw_seq
    | (apply dw_region okK5)
    | apply dw_exit
    | apply ops_nil
    | (apply ops_plain; (· exact rfl))
    | (apply bx_load0; (· exact rfl); (· exact rfl); (· assumption); (· (repeat (first | with_reducible exact At.here | with_reducible apply At.there))); (· (first | exact part48 _ _ _ _ | exact part26 _ | exact part26' _ _ _ _ _ _ | exact part66 _ _ _ _ | exact rfl)))
    | (apply bx_store0; (· exact rfl); (· exact rfl); (· exact rfl); (· assumption); (· (first | (dsimp only [putD, DV.cells, DH.new_next, DH.set_next, List.length_cons, List.length_nil, Nat.reduceAdd, List.set_cons_zero, List.set_cons_succ, getD_zero, getD_succ, fieldAt_zero, fieldAt_succ, thenD, blockD, retR, Sv.cells]; done) | (dsimp only [putD, DV.cells, DH.new_next, DH.set_next, List.length_cons, List.length_nil, Nat.reduceAdd, List.set_cons_zero, List.set_cons_succ, getD_zero, getD_succ, fieldAt_zero, fieldAt_succ, thenD, blockD, retR, Sv.cells]; exact rfl) | exact rfl)); (· (repeat (first | with_reducible exact Upd.here | with_reducible apply Upd.there))); (· exact rfl); (· exact rfl); (· exact rfl); (· exact rfl); intro H1 hB)
    | (apply op_told; (· exact rfl); (· exact hwk))
    | (apply op_at; (· exact rfl))
    | fail)
  have hB := hB.drop1.drop1.drop1.one
  refine ⟨rfl, ⟨_, _, _, k + 1, _, q.step, M, junk_facts (⟨by omega, hord', hB⟩) rfl rfl⟩, ?_⟩
  show n - ((k + 1 : Nat) : Int).toNat < n - k
  omega
theorem step10_over {H Hk : DH} {n c : Nat} {ex : Bool} {hz : Int} {b6 b8 k : Nat} {sq : Sv} {q : Kq} {M : List Item} {J : Nat → DV} {loc i0 : Nat} {ro : Bool} {rs : List (List DV)} {a b cc d : Int} (hn : n ≤ 120) (hlt : k < n) (hh : 0 ≤ hz ∧ hz ≤ 65535) (hord : Ord q M hz k) (hB : Bx H Hk [(b8, .map (thereE M)), (b6, (.rows false 4 [[sq.dv, .int .u64 q.nx, .int .i64 q.now, .int .i64 q.hor]]))] [Is sq.dv q.l]) (hloc : loc < H.next) (hobj : H.obj loc = some (.rows ro 4 rs)) (hrow : rs[i0 + k]? = some [.int .u8 a, .int .u16 b, .int .u8 cc, .int .u8 d]) (ha : 0 ≤ a ∧ a ≤ 255) (hb' : 0 ≤ b ∧ b ≤ 65535) (hcc : 0 ≤ cc ∧ cc ≤ 255) (hd : 0 ≤ d ∧ d ≤ 255) (hmod : a.tmod 4 = 3) (he : q.stepE = 2) (hbig : ∀ z ∈ M, hz < z.a) (hord' : Ord q.step M hz (k + 1)) (hsame : q.step = q) : DWL Try.prog Try.f10 ⟨(.sl (some (loc, i0, 4)) n c ex :: .int .u16 hz :: J 2 :: J 3 :: .bool false :: .bool true :: .ptr (some (b6, 0, 0)) :: J 7 :: .map (some b8) :: J 9 :: J 10 :: J 11 :: J 12 :: J 13 :: J 14 :: J 15 :: J 16 :: J 17 :: J 18 :: J 19 :: J 20 :: J 21 :: J 22 :: J 23 :: J 24 :: J 25 :: J 26 :: J 27 :: J 28 :: J 29 :: J 30 :: J 31 :: J 32 :: J 33 :: J 34 :: J 35 :: J 36 :: J 37 :: J 38 :: J 39 :: J 40 :: J 41 :: J 42 :: J 43 :: J 44 :: .sl (some (loc, i0, 4)) n c ex :: .int .i64 n :: .int .i64 (k : Int) :: J 48 :: J 49 :: J 50 :: J 51 :: J 52 :: J 53 :: J 54 :: J 55 :: J 56 :: J 57 :: J 58 :: J 59 :: J 60 :: J 61 :: J 62 :: J 63 :: J 64 :: J 65 :: J 66 :: J 67 :: J 68 :: J 69 :: J 70 :: J 71 :: J 72 :: J 73 :: J 74 :: J 75 :: J 76 :: J 77 :: J 78 :: J 79 :: J 80 :: J 81 :: J 82 :: J 83 :: J 84 :: J 85 :: J 86 :: J 87 :: J 88 :: J 89 :: J 90 :: J 91 :: J 92 :: J 93 :: J 94 :: J 95 :: J 96 :: J 97 :: J 98 :: J 99 :: J 100 :: J 101 :: J 102 :: J 103 :: J 104 :: J 105 :: J 106 :: J 107 :: J 108 :: J 109 :: J 110 :: J 111 :: J 112 :: J 113 :: J 114 :: J 115 :: J 116 :: J 117 :: J 118 :: J 119 :: J 120 :: J 121 :: J 122 :: J 123 :: J 124 :: J 125 :: J 126 :: J 127 :: J 128 :: J 129 :: J 130 :: J 131 :: J 132 :: J 133 :: J 134 :: J 135 :: J 136 :: J 137 :: J 138 :: J 139 :: J 140 :: J 141 :: J 142 :: J 143 :: J 144 :: J 145 :: J 146 :: J 147 :: J 148 :: J 149 :: J 150 :: J 151 :: J 152 :: J 153 :: J 154 :: J 155 :: J 156 :: J 157 :: J 158 :: J 159 :: J 160 :: J 161 :: J 162 :: J 163 :: J 164 :: J 165 :: J 166 :: J 167 :: J 168 :: J 169 :: J 170 :: J 171 :: J 172 :: J 173 :: J 174 :: J 175 :: J 176 :: J 177 :: J 178 :: J 179 :: J 180 :: J 181 :: J 182 :: J 183 :: J 184 :: J 185 :: J 186 :: J 187 :: J 188 :: J 189 :: J 190 :: J 191 :: J 192 :: J 193 :: J 194 :: J 195 :: J 196 :: J 197 :: J 198 :: J 199 :: J 200 :: J 201 :: J 202 :: J 203 :: J 204 :: J 205 :: J 206 :: J 207 :: J 208 :: J 209 :: J 210 :: J 211 :: J 212 :: J 213 :: J 214 :: J 215 :: J 216 :: J 217 :: J 218 :: J 219 :: J 220 :: J 221 :: J 222 :: J 223 :: J 224 :: []), Hk⟩ (Done10 H (some (loc, i0, 4)) n c ex hz k) := by
  have hrk : rs[i0 + ((k : Int)).toNat]? = some [.int .u8 a, .int .u16 b, .int .u8 cc, .int .u8 d] := by rw [Int.toNat_natCast]; exact hrow
  have hc : decide ((k : Int) < (n : Int)) = true := by simp [hlt]
  have hin : 0 ≤ (k : Int) ∧ (k : Int) < (n : Int) := by omega
  have hwk := congrArg (DV.int .i64) (wrapNat (k := k) (by omega))
  have hwb : DV.int .i64 (IntKind.i64.wrap b) = .int .i64 b := by rw [wrapI (by omega)]
  have hwd : DV.int .i64 (IntKind.i64.wrap d) = .int .i64 d := by rw [wrapI (by omega)]
  have hwu : DV.int .u64 (IntKind.u64.wrap d) = .int .u64 d := by rw [wrapU (by omega) (by omega)]
  have hw1 : DV.int .i64 (IntKind.i64.wrap hz) = .int .i64 hz := by rw [wrapI (by omega)]
  have hoq : q.ok := hord.ok (by omega)
  refine dwl_enter rfl rfl ?_
  have m1 : (q.stepE != 0) = true := by rw [he]; rfl
  have m4 : decide (q.step.now < q.now) = false := by rw [hsame]; simp
  have m2 : (q.stepE == 8) = false := by rw [he]; rfl
  have m5 : (q.stepE != 8) = true := by rw [he]; rfl
  have m6 : (q.stepE != 2) = false := by rw [he]; rfl
  have n7 := hord'.checkE
  have n8 := hord'.lenE
  repeat' (first
    | dsimp only [putD, DV.cells, DH.new_next, DH.set_next, List.length_cons, List.length_nil, Nat.reduceAdd, List.set_cons_zero, List.set_cons_succ, getD_zero, getD_succ, fieldAt_zero, fieldAt_succ, thenD, blockD, retR]
    | (refine hold19 (r1 := 19) ?_)
    | apply dw_seq
    | (apply dw_region okK5)
    | (apply dw_cond_t; (· exact rfl); (· (first | with_reducible assumption | with_reducible rfl | decide)))
    | (apply dw_cond_f; (· exact rfl); (· (first | with_reducible assumption | with_reducible rfl | decide)))
    | apply dw_block
    | apply dw_skip
    | apply ops_nil
    | (apply ops_plain; (· exact rfl))
    | (apply ops_on; (· exact rfl); (· exact rfl); (· (first | with_reducible assumption | with_reducible rfl | decide)))
    | (apply ops_off1; (· exact rfl); (· exact rfl); (· (first | with_reducible assumption | with_reducible rfl | decide)))
    | (apply op_call; (· exact rfl); (· exact rfl); (· exact rfl); (apply step_b; (· assumption); (· (repeat (first | with_reducible exact InF.here | with_reducible assumption | with_reducible apply InF.there))); (· (repeat (first | assumption | apply Kq.post_ok | apply Kq.rpost_ok | apply Kq.cancel_ok | apply Kq.rcancel_ok | apply Kq.step_ok | apply Kq.rstep_ok | apply Kq.tidy_ok | apply kNew_ok))); intro s1 H1 hB))
    | (apply op_pick_t; (· exact rfl); (· exact rfl); (· (first | with_reducible assumption | with_reducible rfl | decide)); (· exact rfl))
    | (apply op_pick_f; (· exact rfl); (· exact rfl); (· (first | with_reducible assumption | with_reducible rfl | decide)); (· exact rfl))
    | (apply bx_load0; (· exact rfl); (· exact rfl); (· assumption); (· (repeat (first | with_reducible exact At.here | with_reducible apply At.there))); (· (first | exact part48 _ _ _ _ | exact part26 _ | exact part26' _ _ _ _ _ _ | exact part66 _ _ _ _ | exact rfl)))
    | (apply bx_store0; (· exact rfl); (· exact rfl); (· exact rfl); (· assumption); (· (first | (dsimp only [putD, DV.cells, DH.new_next, DH.set_next, List.length_cons, List.length_nil, Nat.reduceAdd, List.set_cons_zero, List.set_cons_succ, getD_zero, getD_succ, fieldAt_zero, fieldAt_succ, thenD, blockD, retR, Sv.cells]; done) | (dsimp only [putD, DV.cells, DH.new_next, DH.set_next, List.length_cons, List.length_nil, Nat.reduceAdd, List.set_cons_zero, List.set_cons_succ, getD_zero, getD_succ, fieldAt_zero, fieldAt_succ, thenD, blockD, retR, Sv.cells]; exact rfl) | exact rfl)); (· (repeat (first | with_reducible exact Upd.here | with_reducible apply Upd.there))); (· exact rfl); (· exact rfl); (· exact rfl); (· exact rfl); intro H1 hB)
    | (apply bx_alloc; (· exact rfl); (· exact zero48); (· (first | (dsimp only [putD, DV.cells, DH.new_next, DH.set_next, List.length_cons, List.length_nil, Nat.reduceAdd, List.set_cons_zero, List.set_cons_succ, getD_zero, getD_succ, fieldAt_zero, fieldAt_succ, thenD, blockD, retR, Sv.cells]; done) | (dsimp only [putD, DV.cells, DH.new_next, DH.set_next, List.length_cons, List.length_nil, Nat.reduceAdd, List.set_cons_zero, List.set_cons_succ, getD_zero, getD_succ, fieldAt_zero, fieldAt_succ, thenD, blockD, retR, Sv.cells]; exact rfl) | exact rfl)); (· exact rfl); (· exact rfl); (· assumption); intro b48 H1 hB)
    | (apply bx_alloc; (· exact rfl); (· exact zero26); (· (first | (dsimp only [putD, DV.cells, DH.new_next, DH.set_next, List.length_cons, List.length_nil, Nat.reduceAdd, List.set_cons_zero, List.set_cons_succ, getD_zero, getD_succ, fieldAt_zero, fieldAt_succ, thenD, blockD, retR, Sv.cells]; done) | (dsimp only [putD, DV.cells, DH.new_next, DH.set_next, List.length_cons, List.length_nil, Nat.reduceAdd, List.set_cons_zero, List.set_cons_succ, getD_zero, getD_succ, fieldAt_zero, fieldAt_succ, thenD, blockD, retR, Sv.cells]; exact rfl) | exact rfl)); (· exact rfl); (· exact rfl); (· assumption); intro b26 H1 hB)
    | (apply bx_alloc; (· exact rfl); (· exact zero66); (· (first | (dsimp only [putD, DV.cells, DH.new_next, DH.set_next, List.length_cons, List.length_nil, Nat.reduceAdd, List.set_cons_zero, List.set_cons_succ, getD_zero, getD_succ, fieldAt_zero, fieldAt_succ, thenD, blockD, retR, Sv.cells]; done) | (dsimp only [putD, DV.cells, DH.new_next, DH.set_next, List.length_cons, List.length_nil, Nat.reduceAdd, List.set_cons_zero, List.set_cons_succ, getD_zero, getD_succ, fieldAt_zero, fieldAt_succ, thenD, blockD, retR, Sv.cells]; exact rfl) | exact rfl)); (· exact rfl); (· exact rfl); (· assumption); intro b66 H1 hB)
    | (apply bx_loadA; (· exact rfl); (· exact rfl); (· assumption); (· exact hloc); (· exact hobj); (· exact hrk); (· exact part66 _ _ _ _))
    | (apply op_index_at; (· exact rfl); (· exact rfl); (· exact rfl); (· with_reducible exact hin); (· exact rfl); (· exact rfl))
    | (apply op_at; (· exact opD_rem rfl rfl rfl (by decide) hmod))
    | (apply op_at; (· exact rfl))
    | fail)
  refine ⟨?_⟩
  refine dw_range_map okK5 (r1 := 19) (n := 225) (m := b8) (es := thereE M) rfl rfl rfl rfl rfl rfl rfl rfl rfl rfl rfl rfl rfl rfl rfl rfl Try.underlying64 (codeOk_spec mixed rfl) rfl (by decide) (by decide) (by decide) (by decide) (by decide) (by decide) (by decide) rfl (Bx.get (by assumption) (by (repeat (first | with_reducible exact At.here | with_reducible apply At.there)))) (fun st => ∃ (Hj : DH), ∃ J : Nat → DV, (Above (hide H1 b8) Hj) ∧ st = ⟨(.sl (some (loc, i0, 4)) n c ex :: .int .u16 hz :: J 2 :: J 3 :: .bool false :: .bool true :: .ptr (some (b6, 0, 0)) :: J 7 :: .map (some b8) :: J 9 :: J 10 :: .int .i64 q.now :: J 12 :: J 13 :: J 14 :: J 15 :: J 16 :: J 17 :: J 18 :: J 19 :: J 20 :: J 21 :: .ptr (some (b48, 0, 0)) :: .ptr (some (b26, 0, 0)) :: .int .i64 q.stepE :: J 25 :: J 26 :: J 27 :: J 28 :: J 29 :: J 30 :: J 31 :: J 32 :: J 33 :: J 34 :: J 35 :: J 36 :: J 37 :: J 38 :: J 39 :: J 40 :: J 41 :: J 42 :: J 43 :: J 44 :: .sl (some (loc, i0, 4)) n c ex :: .int .i64 n :: .int .i64 (k : Int) :: J 48 :: J 49 :: J 50 :: J 51 :: J 52 :: J 53 :: J 54 :: J 55 :: J 56 :: J 57 :: J 58 :: J 59 :: J 60 :: J 61 :: J 62 :: J 63 :: J 64 :: J 65 :: J 66 :: J 67 :: J 68 :: J 69 :: J 70 :: J 71 :: J 72 :: J 73 :: J 74 :: J 75 :: J 76 :: J 77 :: J 78 :: J 79 :: .ptr (some (H1.next, 0, 0)) :: J 81 :: J 82 :: J 83 :: J 84 :: J 85 :: J 86 :: J 87 :: J 88 :: J 89 :: J 90 :: J 91 :: J 92 :: J 93 :: J 94 :: J 95 :: J 96 :: J 97 :: J 98 :: J 99 :: J 100 :: J 101 :: J 102 :: J 103 :: J 104 :: J 105 :: J 106 :: J 107 :: J 108 :: J 109 :: J 110 :: J 111 :: J 112 :: J 113 :: J 114 :: J 115 :: J 116 :: J 117 :: J 118 :: J 119 :: J 120 :: J 121 :: J 122 :: J 123 :: J 124 :: J 125 :: J 126 :: J 127 :: J 128 :: J 129 :: J 130 :: J 131 :: J 132 :: J 133 :: J 134 :: J 135 :: J 136 :: J 137 :: J 138 :: J 139 :: J 140 :: J 141 :: J 142 :: J 143 :: J 144 :: J 145 :: J 146 :: J 147 :: J 148 :: J 149 :: J 150 :: J 151 :: J 152 :: J 153 :: J 154 :: J 155 :: J 156 :: J 157 :: J 158 :: J 159 :: J 160 :: J 161 :: J 162 :: J 163 :: J 164 :: J 165 :: J 166 :: J 167 :: J 168 :: J 169 :: J 170 :: J 171 :: J 172 :: J 173 :: J 174 :: J 175 :: J 176 :: J 177 :: J 178 :: J 179 :: J 180 :: J 181 :: J 182 :: J 183 :: J 184 :: J 185 :: J 186 :: J 187 :: J 188 :: J 189 :: J 190 :: J 191 :: J 192 :: J 193 :: J 194 :: J 195 :: J 196 :: J 197 :: J 198 :: J 199 :: J 200 :: J 201 :: J 202 :: J 203 :: J 204 :: J 205 :: J 206 :: J 207 :: J 208 :: J 209 :: J 210 :: J 211 :: J 212 :: J 213 :: J 214 :: J 215 :: J 216 :: J 217 :: J 218 :: J 219 :: J 220 :: J 221 :: J 222 :: J 223 :: J 224 :: []), Hj⟩) ?_ ?_ ?_ ?_
  · rintro st1 ⟨Hj, J2, habj, rfl⟩; exact ⟨rfl, rfl, habj⟩
  · exact ⟨_, junk_facts (Above.refl _) rfl rfl⟩
  · rintro st1 kd vd ⟨Hj, J2, habj, rfl⟩ hmem
    obtain ⟨z, hzM, rfl, rfl⟩ := there_mem hmem
    have hza : decide (z.a ≤ hz) = false := by have := hbig z hzM; simp only [decide_eq_false_iff_not]; omega
    have hBj : Bx Hj Hj [] [] := Bx.init (fun f hf => by cases hf)
    repeat' (first
      | dsimp only [putD, DV.cells, DH.new_next, DH.set_next, List.length_cons, List.length_nil, Nat.reduceAdd, List.set_cons_zero, List.set_cons_succ, getD_zero, getD_succ, fieldAt_zero, fieldAt_succ, thenD, blockD, retR]
      | apply dwp_seq
      | apply dwp_region
      | apply ops_nil
      | (apply ops_plain; (· exact rfl))
      | (apply bx_load0; (· exact rfl); (· exact rfl); (· assumption); (· (repeat (first | with_reducible exact At.here | with_reducible apply At.there))); (· (first | exact part48 _ _ _ _ | exact part26 _ | exact part26' _ _ _ _ _ _ | exact part66 _ _ _ _ | exact rfl)))
      | (apply bx_store0; (· exact rfl); (· exact rfl); (· exact rfl); (· assumption); (· (first | (dsimp only [putD, DV.cells, DH.new_next, DH.set_next, List.length_cons, List.length_nil, Nat.reduceAdd, List.set_cons_zero, List.set_cons_succ, getD_zero, getD_succ, fieldAt_zero, fieldAt_succ, thenD, blockD, retR, Sv.cells]; done) | (dsimp only [putD, DV.cells, DH.new_next, DH.set_next, List.length_cons, List.length_nil, Nat.reduceAdd, List.set_cons_zero, List.set_cons_succ, getD_zero, getD_succ, fieldAt_zero, fieldAt_succ, thenD, blockD, retR, Sv.cells]; exact rfl) | exact rfl)); (· (repeat (first | with_reducible exact Upd.here | with_reducible apply Upd.there))); (· exact rfl); (· exact rfl); (· exact rfl); (· exact rfl); intro H1 hB)
      | (apply bx_alloc; (· exact rfl); (· exact zero26); (· (first | (dsimp only [putD, DV.cells, DH.new_next, DH.set_next, List.length_cons, List.length_nil, Nat.reduceAdd, List.set_cons_zero, List.set_cons_succ, getD_zero, getD_succ, fieldAt_zero, fieldAt_succ, thenD, blockD, retR, Sv.cells]; done) | (dsimp only [putD, DV.cells, DH.new_next, DH.set_next, List.length_cons, List.length_nil, Nat.reduceAdd, List.set_cons_zero, List.set_cons_succ, getD_zero, getD_succ, fieldAt_zero, fieldAt_succ, thenD, blockD, retR, Sv.cells]; exact rfl) | exact rfl)); (· exact rfl); (· exact rfl); (· assumption); intro b1 H1 hB)
      | (apply op_told; (· exact rfl); (· exact hw1))
      | (apply op_at; (· exact rfl))
      | (apply dwp_cond_f; (· exact rfl); (· (first | with_reducible assumption | with_reducible rfl | decide)))
      | apply dwp_skip
      | fail)
    exact ⟨.inl rfl, ⟨_, junk_facts (habj.trans hB.ab) rfl rfl⟩⟩
  rintro st1 ⟨Hj, J2, habj, rfl⟩
  have hB := hB.grow (habj.unhide (hB.get (o := .map (thereE M)) (by (repeat (first | with_reducible exact At.here | with_reducible apply At.there)))))
  generalize hH : Hj.set b8 (some (.map (thereE M))) = H1 at hB ⊢
  clear hH
  repeat' (first
    | dsimp only [putD, DV.cells, DH.new_next, DH.set_next, List.length_cons, List.length_nil, Nat.reduceAdd, List.set_cons_zero, List.set_cons_succ, getD_zero, getD_succ, fieldAt_zero, fieldAt_succ, thenD, blockD, retR]
    | apply dw_seq
    | (apply dw_region okK5)
    | apply dw_exit
    | apply ops_nil
    | (apply ops_plain; (· exact rfl))
    | (apply bx_load0; (· exact rfl); (· exact rfl); (· assumption); (· (repeat (first | with_reducible exact At.here | with_reducible apply At.there))); (· (first | exact part48 _ _ _ _ | exact part26 _ | exact part26' _ _ _ _ _ _ | exact part66 _ _ _ _ | exact rfl)))
    | (apply bx_store0; (· exact rfl); (· exact rfl); (· exact rfl); (· assumption); (· (first | (dsimp only [putD, DV.cells, DH.new_next, DH.set_next, List.length_cons, List.length_nil, Nat.reduceAdd, List.set_cons_zero, List.set_cons_succ, getD_zero, getD_succ, fieldAt_zero, fieldAt_succ, thenD, blockD, retR, Sv.cells]; done) | (dsimp only [putD, DV.cells, DH.new_next, DH.set_next, List.length_cons, List.length_nil, Nat.reduceAdd, List.set_cons_zero, List.set_cons_succ, getD_zero, getD_succ, fieldAt_zero, fieldAt_succ, thenD, blockD, retR, Sv.cells]; exact rfl) | exact rfl)); (· (repeat (first | with_reducible exact Upd.here | with_reducible apply Upd.there))); (· exact rfl); (· exact rfl); (· exact rfl); (· exact rfl); intro H1 hB)
    | (apply op_told; (· exact rfl); (· exact hwk))
    | (apply op_at; (· exact rfl))
    | fail)
  have hB := hB.drop1.drop1.drop1.one
  refine ⟨rfl, ⟨_, _, _, k + 1, _, q.step, M, junk_facts (⟨by omega, hord', hB⟩) rfl rfl⟩, ?_⟩
  show n - ((k + 1 : Nat) : Int).toNat < n - k
  omega
theorem step10_some {H Hk : DH} {n c : Nat} {ex : Bool} {hz : Int} {b6 b8 k : Nat} {sq : Sv} {q : Kq} {M : List Item} {J : Nat → DV} {loc i0 : Nat} {ro : Bool} {rs : List (List DV)} {a b cc d : Int} (hn : n ≤ 120) (hlt : k < n) (hh : 0 ≤ hz ∧ hz ≤ 65535) (hord : Ord q M hz k) (hB : Bx H Hk [(b8, .map (thereE M)), (b6, (.rows false 4 [[sq.dv, .int .u64 q.nx, .int .i64 q.now, .int .i64 q.hor]]))] [Is sq.dv q.l]) (hloc : loc < H.next) (hobj : H.obj loc = some (.rows ro 4 rs)) (hrow : rs[i0 + k]? = some [.int .u8 a, .int .u16 b, .int .u8 cc, .int .u8 d]) (ha : 0 ≤ a ∧ a ≤ 255) (hb' : 0 ≤ b ∧ b ≤ 65535) (hcc : 0 ≤ cc ∧ cc ≤ 255) (hd : 0 ≤ d ∧ d ≤ 255) (hmod : a.tmod 4 = 3) (he : q.stepE = 0) (hnow : q.step.now = q.stepX.a) (hle : q.now ≤ q.stepX.a) (hfirst : ∀ z ∈ M, ilt z q.stepX = false) {i : Nat} (hfind : findD Try.prog 24 (.int .u64 q.stepX.s) (thereE M) = some (some (i, .agg q.stepX.cells))) (hord' : Ord q.step (M.eraseIdx i) hz (k + 1)) : DWL Try.prog Try.f10 ⟨(.sl (some (loc, i0, 4)) n c ex :: .int .u16 hz :: J 2 :: J 3 :: .bool false :: .bool true :: .ptr (some (b6, 0, 0)) :: J 7 :: .map (some b8) :: J 9 :: J 10 :: J 11 :: J 12 :: J 13 :: J 14 :: J 15 :: J 16 :: J 17 :: J 18 :: J 19 :: J 20 :: J 21 :: J 22 :: J 23 :: J 24 :: J 25 :: J 26 :: J 27 :: J 28 :: J 29 :: J 30 :: J 31 :: J 32 :: J 33 :: J 34 :: J 35 :: J 36 :: J 37 :: J 38 :: J 39 :: J 40 :: J 41 :: J 42 :: J 43 :: J 44 :: .sl (some (loc, i0, 4)) n c ex :: .int .i64 n :: .int .i64 (k : Int) :: J 48 :: J 49 :: J 50 :: J 51 :: J 52 :: J 53 :: J 54 :: J 55 :: J 56 :: J 57 :: J 58 :: J 59 :: J 60 :: J 61 :: J 62 :: J 63 :: J 64 :: J 65 :: J 66 :: J 67 :: J 68 :: J 69 :: J 70 :: J 71 :: J 72 :: J 73 :: J 74 :: J 75 :: J 76 :: J 77 :: J 78 :: J 79 :: J 80 :: J 81 :: J 82 :: J 83 :: J 84 :: J 85 :: J 86 :: J 87 :: J 88 :: J 89 :: J 90 :: J 91 :: J 92 :: J 93 :: J 94 :: J 95 :: J 96 :: J 97 :: J 98 :: J 99 :: J 100 :: J 101 :: J 102 :: J 103 :: J 104 :: J 105 :: J 106 :: J 107 :: J 108 :: J 109 :: J 110 :: J 111 :: J 112 :: J 113 :: J 114 :: J 115 :: J 116 :: J 117 :: J 118 :: J 119 :: J 120 :: J 121 :: J 122 :: J 123 :: J 124 :: J 125 :: J 126 :: J 127 :: J 128 :: J 129 :: J 130 :: J 131 :: J 132 :: J 133 :: J 134 :: J 135 :: J 136 :: J 137 :: J 138 :: J 139 :: J 140 :: J 141 :: J 142 :: J 143 :: J 144 :: J 145 :: J 146 :: J 147 :: J 148 :: J 149 :: J 150 :: J 151 :: J 152 :: J 153 :: J 154 :: J 155 :: J 156 :: J 157 :: J 158 :: J 159 :: J 160 :: J 161 :: J 162 :: J 163 :: J 164 :: J 165 :: J 166 :: J 167 :: J 168 :: J 169 :: J 170 :: J 171 :: J 172 :: J 173 :: J 174 :: J 175 :: J 176 :: J 177 :: J 178 :: J 179 :: J 180 :: J 181 :: J 182 :: J 183 :: J 184 :: J 185 :: J 186 :: J 187 :: J 188 :: J 189 :: J 190 :: J 191 :: J 192 :: J 193 :: J 194 :: J 195 :: J 196 :: J 197 :: J 198 :: J 199 :: J 200 :: J 201 :: J 202 :: J 203 :: J 204 :: J 205 :: J 206 :: J 207 :: J 208 :: J 209 :: J 210 :: J 211 :: J 212 :: J 213 :: J 214 :: J 215 :: J 216 :: J 217 :: J 218 :: J 219 :: J 220 :: J 221 :: J 222 :: J 223 :: J 224 :: []), Hk⟩ (Done10 H (some (loc, i0, 4)) n c ex hz k) := by
  have hrk : rs[i0 + ((k : Int)).toNat]? = some [.int .u8 a, .int .u16 b, .int .u8 cc, .int .u8 d] := by rw [Int.toNat_natCast]; exact hrow
  have hc : decide ((k : Int) < (n : Int)) = true := by simp [hlt]
  have hin : 0 ≤ (k : Int) ∧ (k : Int) < (n : Int) := by omega
  have hwk := congrArg (DV.int .i64) (wrapNat (k := k) (by omega))
  have hwb : DV.int .i64 (IntKind.i64.wrap b) = .int .i64 b := by rw [wrapI (by omega)]
  have hwd : DV.int .i64 (IntKind.i64.wrap d) = .int .i64 d := by rw [wrapI (by omega)]
  have hwu : DV.int .u64 (IntKind.u64.wrap d) = .int .u64 d := by rw [wrapU (by omega) (by omega)]
  have hw1 : DV.int .i64 (IntKind.i64.wrap hz) = .int .i64 hz := by rw [wrapI (by omega)]
  have hoq : q.ok := hord.ok (by omega)
  refine dwl_enter rfl rfl ?_
  have hdrop := there_drop M i
  have m1 : (q.stepE != 0) = false := by rw [he]; rfl
  have m2 : (!decide (q.stepX = q.stepX)) = false := by simp
  have m3 : (q.step.now != q.stepX.a) = false := by rw [hnow]; exact bne_self_eq_false _
  have m5 : decide (q.stepX.a < q.now) = false := by simp; exact hle
  have m4 : decide (q.step.now < q.now) = false := by rw [hnow]; simp; exact hle
  have n7 := hord'.checkE
  have n8 := hord'.lenE
  repeat' (first
    | dsimp only [putD, DV.cells, DH.new_next, DH.set_next, List.length_cons, List.length_nil, Nat.reduceAdd, List.set_cons_zero, List.set_cons_succ, getD_zero, getD_succ, fieldAt_zero, fieldAt_succ, thenD, blockD, retR]
    | (refine hold19 (r1 := 27) ?_)
    | apply dw_seq
    | (apply dw_region okK5)
    | (apply dw_cond_t; (· exact rfl); (· (first | with_reducible assumption | with_reducible rfl | decide)))
    | (apply dw_cond_f; (· exact rfl); (· (first | with_reducible assumption | with_reducible rfl | decide)))
    | apply dw_block
    | apply dw_skip
    | apply ops_nil
    | (apply ops_plain; (· exact rfl))
    | (apply ops_on; (· exact rfl); (· exact rfl); (· (first | with_reducible assumption | with_reducible rfl | decide)))
    | (apply op_call; (· exact rfl); (· exact rfl); (· exact rfl); (apply step_b; (· assumption); (· (repeat (first | with_reducible exact InF.here | with_reducible assumption | with_reducible apply InF.there))); (· (repeat (first | assumption | apply Kq.post_ok | apply Kq.rpost_ok | apply Kq.cancel_ok | apply Kq.rcancel_ok | apply Kq.step_ok | apply Kq.rstep_ok | apply Kq.tidy_ok | apply kNew_ok))); intro s1 H1 hB))
    | (apply op_pick_f; (· exact rfl); (· exact rfl); (· (first | with_reducible assumption | with_reducible rfl | decide)); (· exact rfl))
    | (apply bx_load0; (· exact rfl); (· exact rfl); (· assumption); (· (repeat (first | with_reducible exact At.here | with_reducible apply At.there))); (· (first | exact part48 _ _ _ _ | exact part26 _ | exact part26' _ _ _ _ _ _ | exact part66 _ _ _ _ | exact rfl)))
    | (apply bx_store0; (· exact rfl); (· exact rfl); (· exact rfl); (· assumption); (· (first | (dsimp only [putD, DV.cells, DH.new_next, DH.set_next, List.length_cons, List.length_nil, Nat.reduceAdd, List.set_cons_zero, List.set_cons_succ, getD_zero, getD_succ, fieldAt_zero, fieldAt_succ, thenD, blockD, retR, Sv.cells]; done) | (dsimp only [putD, DV.cells, DH.new_next, DH.set_next, List.length_cons, List.length_nil, Nat.reduceAdd, List.set_cons_zero, List.set_cons_succ, getD_zero, getD_succ, fieldAt_zero, fieldAt_succ, thenD, blockD, retR, Sv.cells]; exact rfl) | exact rfl)); (· (repeat (first | with_reducible exact Upd.here | with_reducible apply Upd.there))); (· exact rfl); (· exact rfl); (· exact rfl); (· exact rfl); intro H1 hB)
    | (apply bx_alloc; (· exact rfl); (· exact zero48); (· (first | (dsimp only [putD, DV.cells, DH.new_next, DH.set_next, List.length_cons, List.length_nil, Nat.reduceAdd, List.set_cons_zero, List.set_cons_succ, getD_zero, getD_succ, fieldAt_zero, fieldAt_succ, thenD, blockD, retR, Sv.cells]; done) | (dsimp only [putD, DV.cells, DH.new_next, DH.set_next, List.length_cons, List.length_nil, Nat.reduceAdd, List.set_cons_zero, List.set_cons_succ, getD_zero, getD_succ, fieldAt_zero, fieldAt_succ, thenD, blockD, retR, Sv.cells]; exact rfl) | exact rfl)); (· exact rfl); (· exact rfl); (· assumption); intro b48 H1 hB)
    | (apply bx_alloc; (· exact rfl); (· exact zero26); (· (first | (dsimp only [putD, DV.cells, DH.new_next, DH.set_next, List.length_cons, List.length_nil, Nat.reduceAdd, List.set_cons_zero, List.set_cons_succ, getD_zero, getD_succ, fieldAt_zero, fieldAt_succ, thenD, blockD, retR, Sv.cells]; done) | (dsimp only [putD, DV.cells, DH.new_next, DH.set_next, List.length_cons, List.length_nil, Nat.reduceAdd, List.set_cons_zero, List.set_cons_succ, getD_zero, getD_succ, fieldAt_zero, fieldAt_succ, thenD, blockD, retR, Sv.cells]; exact rfl) | exact rfl)); (· exact rfl); (· exact rfl); (· assumption); intro b26 H1 hB)
    | (apply bx_alloc; (· exact rfl); (· exact zero66); (· (first | (dsimp only [putD, DV.cells, DH.new_next, DH.set_next, List.length_cons, List.length_nil, Nat.reduceAdd, List.set_cons_zero, List.set_cons_succ, getD_zero, getD_succ, fieldAt_zero, fieldAt_succ, thenD, blockD, retR, Sv.cells]; done) | (dsimp only [putD, DV.cells, DH.new_next, DH.set_next, List.length_cons, List.length_nil, Nat.reduceAdd, List.set_cons_zero, List.set_cons_succ, getD_zero, getD_succ, fieldAt_zero, fieldAt_succ, thenD, blockD, retR, Sv.cells]; exact rfl) | exact rfl)); (· exact rfl); (· exact rfl); (· assumption); intro b66 H1 hB)
    | (apply bx_lookupF; (· exact rfl); (· exact rfl); (· exact rfl); (· exact Try.underlying64); (· assumption); (· (repeat (first | with_reducible exact At.here | with_reducible apply At.there))); (· exact keyOk_int _); (· exact hfind))
    | (apply bx_loadA; (· exact rfl); (· exact rfl); (· assumption); (· exact hloc); (· exact hobj); (· exact hrk); (· exact part66 _ _ _ _))
    | (apply op_index_at; (· exact rfl); (· exact rfl); (· exact rfl); (· with_reducible exact hin); (· exact rfl); (· exact rfl))
    | (apply op_at; (· exact opD_rem rfl rfl rfl (by decide) hmod))
    | (apply op_at; (· exact opD_neql rfl rfl rfl (eqItem _ _)))
    | (apply op_at; (· exact rfl))
    | fail)
  refine ⟨?_⟩
  refine dw_range_map okK5 (r1 := 27) (n := 225) (m := b8) (es := thereE M) rfl rfl rfl rfl rfl rfl rfl rfl rfl rfl rfl rfl rfl rfl rfl rfl Try.underlying64 (codeOk_spec mixed rfl) rfl (by decide) (by decide) (by decide) (by decide) (by decide) (by decide) (by decide) rfl (Bx.get (by assumption) (by (repeat (first | with_reducible exact At.here | with_reducible apply At.there)))) (fun st => ∃ (Hj : DH), ∃ J : Nat → DV, (Above (hide H1 b8) Hj) ∧ st = ⟨(.sl (some (loc, i0, 4)) n c ex :: .int .u16 hz :: J 2 :: J 3 :: .bool false :: .bool true :: .ptr (some (b6, 0, 0)) :: J 7 :: .map (some b8) :: J 9 :: J 10 :: .int .i64 q.now :: J 12 :: J 13 :: J 14 :: J 15 :: J 16 :: J 17 :: J 18 :: J 19 :: J 20 :: J 21 :: .ptr (some (b48, 0, 0)) :: .ptr (some (b26, 0, 0)) :: .int .i64 q.stepE :: J 25 :: J 26 :: J 27 :: J 28 :: J 29 :: J 30 :: J 31 :: J 32 :: J 33 :: J 34 :: J 35 :: J 36 :: J 37 :: J 38 :: J 39 :: J 40 :: J 41 :: J 42 :: J 43 :: J 44 :: .sl (some (loc, i0, 4)) n c ex :: .int .i64 n :: .int .i64 (k : Int) :: J 48 :: J 49 :: J 50 :: J 51 :: J 52 :: J 53 :: J 54 :: J 55 :: J 56 :: J 57 :: J 58 :: J 59 :: J 60 :: J 61 :: J 62 :: J 63 :: J 64 :: J 65 :: J 66 :: J 67 :: J 68 :: J 69 :: J 70 :: J 71 :: J 72 :: J 73 :: J 74 :: J 75 :: J 76 :: J 77 :: J 78 :: J 79 :: J 80 :: J 81 :: J 82 :: J 83 :: J 84 :: J 85 :: J 86 :: J 87 :: J 88 :: J 89 :: J 90 :: J 91 :: J 92 :: J 93 :: J 94 :: J 95 :: J 96 :: J 97 :: J 98 :: J 99 :: J 100 :: J 101 :: J 102 :: J 103 :: J 104 :: J 105 :: J 106 :: J 107 :: J 108 :: J 109 :: J 110 :: .ptr (some (H1.next, 0, 0)) :: J 112 :: J 113 :: J 114 :: J 115 :: J 116 :: J 117 :: J 118 :: J 119 :: J 120 :: J 121 :: J 122 :: J 123 :: J 124 :: J 125 :: J 126 :: J 127 :: J 128 :: J 129 :: J 130 :: J 131 :: J 132 :: J 133 :: J 134 :: J 135 :: J 136 :: J 137 :: J 138 :: J 139 :: J 140 :: J 141 :: J 142 :: J 143 :: J 144 :: J 145 :: J 146 :: J 147 :: J 148 :: J 149 :: J 150 :: J 151 :: J 152 :: J 153 :: J 154 :: J 155 :: J 156 :: J 157 :: J 158 :: J 159 :: J 160 :: J 161 :: J 162 :: J 163 :: J 164 :: J 165 :: J 166 :: J 167 :: J 168 :: J 169 :: J 170 :: J 171 :: J 172 :: J 173 :: J 174 :: J 175 :: J 176 :: J 177 :: J 178 :: J 179 :: J 180 :: J 181 :: J 182 :: J 183 :: J 184 :: J 185 :: J 186 :: J 187 :: J 188 :: J 189 :: J 190 :: J 191 :: J 192 :: J 193 :: J 194 :: J 195 :: J 196 :: J 197 :: J 198 :: J 199 :: J 200 :: J 201 :: J 202 :: J 203 :: J 204 :: J 205 :: J 206 :: J 207 :: J 208 :: J 209 :: J 210 :: J 211 :: J 212 :: J 213 :: J 214 :: J 215 :: J 216 :: J 217 :: J 218 :: J 219 :: J 220 :: J 221 :: J 222 :: J 223 :: J 224 :: []), Hj⟩) ?_ ?_ ?_ ?_
  · rintro st1 ⟨Hj, J2, habj, rfl⟩; exact ⟨rfl, rfl, habj⟩
  · exact ⟨_, junk_facts (Above.refl _) rfl rfl⟩
  · rintro st1 kd vd ⟨Hj, J2, habj, rfl⟩ hmem
    obtain ⟨z, hzM, rfl, rfl⟩ := there_mem hmem
    have hzl : ilt z q.stepX = false := hfirst z hzM
    have h26 := hB.get (b := b26) (o := .rows false 6 [q.stepX.cells]) (by exact At.here)
    have h8 := hB.get (b := b8) (o := .map (thereE M)) (by (repeat (first | with_reducible exact At.here | with_reducible apply At.there)))
    have hne26 : b26 ≠ b8 := fun e => by rw [e, h8] at h26; cases h26
    have hl26 := (hB.obj (b26, .rows false 6 [q.stepX.cells]) (At.mem (by exact At.here))).2.1
    have hb26 := habj.hidden hl26 hne26 h26
    have hlj : b26 < Hj.next := Nat.lt_of_lt_of_le (Nat.lt_succ_of_lt hl26) habj.le
    have hBj : Bx Hj Hj [] [] := Bx.init (fun f hf => by cases hf)
    repeat' (first
      | dsimp only [putD, DV.cells, DH.new_next, DH.set_next, List.length_cons, List.length_nil, Nat.reduceAdd, List.set_cons_zero, List.set_cons_succ, getD_zero, getD_succ, fieldAt_zero, fieldAt_succ, thenD, blockD, retR]
      | apply dwp_seq
      | apply dwp_region
      | apply ops_nil
      | (apply ops_plain; (· exact rfl))
      | (apply op_call; (· exact rfl); (· exact rfl); (· exact rfl); refine call_table (g := gLess) rfl (gLess_at _ _ _) ?_)
      | (apply bx_load0; (· exact rfl); (· exact rfl); (· assumption); (· (repeat (first | with_reducible exact At.here | with_reducible apply At.there))); (· (first | exact part48 _ _ _ _ | exact part26 _ | exact part26' _ _ _ _ _ _ | exact part66 _ _ _ _ | exact rfl)))
      | (apply bx_store0; (· exact rfl); (· exact rfl); (· exact rfl); (· assumption); (· (first | (dsimp only [putD, DV.cells, DH.new_next, DH.set_next, List.length_cons, List.length_nil, Nat.reduceAdd, List.set_cons_zero, List.set_cons_succ, getD_zero, getD_succ, fieldAt_zero, fieldAt_succ, thenD, blockD, retR, Sv.cells]; done) | (dsimp only [putD, DV.cells, DH.new_next, DH.set_next, List.length_cons, List.length_nil, Nat.reduceAdd, List.set_cons_zero, List.set_cons_succ, getD_zero, getD_succ, fieldAt_zero, fieldAt_succ, thenD, blockD, retR, Sv.cells]; exact rfl) | exact rfl)); (· (repeat (first | with_reducible exact Upd.here | with_reducible apply Upd.there))); (· exact rfl); (· exact rfl); (· exact rfl); (· exact rfl); intro H1 hB)
      | (apply bx_alloc; (· exact rfl); (· exact zero26); (· (first | (dsimp only [putD, DV.cells, DH.new_next, DH.set_next, List.length_cons, List.length_nil, Nat.reduceAdd, List.set_cons_zero, List.set_cons_succ, getD_zero, getD_succ, fieldAt_zero, fieldAt_succ, thenD, blockD, retR, Sv.cells]; done) | (dsimp only [putD, DV.cells, DH.new_next, DH.set_next, List.length_cons, List.length_nil, Nat.reduceAdd, List.set_cons_zero, List.set_cons_succ, getD_zero, getD_succ, fieldAt_zero, fieldAt_succ, thenD, blockD, retR, Sv.cells]; exact rfl) | exact rfl)); (· exact rfl); (· exact rfl); (· assumption); intro b1 H1 hB)
      | (apply bx_loadA; (· exact rfl); (· exact rfl); (· assumption); (· exact hlj); (· exact hb26); (· exact rfl); (· exact part26 _))
      | (apply op_at; (· exact rfl))
      | (apply dwp_cond_f; (· exact rfl); (· (first | with_reducible assumption | with_reducible rfl | decide)))
      | apply dwp_skip
      | fail)
    exact ⟨.inl rfl, ⟨_, junk_facts (habj.trans hB.ab) rfl rfl⟩⟩
  rintro st1 ⟨Hj, J2, habj, rfl⟩
  have hB := hB.grow (habj.unhide (hB.get (o := .map (thereE M)) (by (repeat (first | with_reducible exact At.here | with_reducible apply At.there)))))
  generalize hH : Hj.set b8 (some (.map (thereE M))) = H1 at hB ⊢
  clear hH
  repeat' (first
    | dsimp only [putD, DV.cells, DH.new_next, DH.set_next, List.length_cons, List.length_nil, Nat.reduceAdd, List.set_cons_zero, List.set_cons_succ, getD_zero, getD_succ, fieldAt_zero, fieldAt_succ, thenD, blockD, retR]
    | apply dw_seq
    | (apply dw_region okK5)
    | (apply dw_cond_f; (· exact rfl); (· (first | with_reducible assumption | with_reducible rfl | decide)))
    | apply dw_skip
    | apply ops_nil
    | (apply ops_plain; (· exact rfl))
    | (apply ops_on; (· exact rfl); (· exact rfl); (· (first | with_reducible assumption | with_reducible rfl | decide)))
    | (apply op_call; (· exact rfl); (· exact rfl); (· exact rfl); (apply check_b; (· assumption); (· (repeat (first | with_reducible exact InF.here | with_reducible assumption | with_reducible apply InF.there)))))
    | (apply op_pick_f; (· exact rfl); (· exact rfl); (· (first | with_reducible assumption | with_reducible rfl | decide)); (· exact rfl))
    | (apply bx_load0; (· exact rfl); (· exact rfl); (· assumption); (· (repeat (first | with_reducible exact At.here | with_reducible apply At.there))); (· (first | exact part48 _ _ _ _ | exact part26 _ | exact part26' _ _ _ _ _ _ | exact part66 _ _ _ _ | exact rfl)))
    | (apply bx_store0; (· exact rfl); (· exact rfl); (· exact rfl); (· assumption); (· (first | (dsimp only [putD, DV.cells, DH.new_next, DH.set_next, List.length_cons, List.length_nil, Nat.reduceAdd, List.set_cons_zero, List.set_cons_succ, getD_zero, getD_succ, fieldAt_zero, fieldAt_succ, thenD, blockD, retR, Sv.cells]; done) | (dsimp only [putD, DV.cells, DH.new_next, DH.set_next, List.length_cons, List.length_nil, Nat.reduceAdd, List.set_cons_zero, List.set_cons_succ, getD_zero, getD_succ, fieldAt_zero, fieldAt_succ, thenD, blockD, retR, Sv.cells]; exact rfl) | exact rfl)); (· (repeat (first | with_reducible exact Upd.here | with_reducible apply Upd.there))); (· exact rfl); (· exact rfl); (· exact rfl); (· exact rfl); intro H1 hB)
    | (apply bx_delete1e; (· exact rfl); (· exact rfl); (· exact rfl); (· exact Try.underlying64); (· assumption); (· exact keyOk_int _); (· exact hfind); (· exact hdrop); (· (repeat (first | with_reducible exact Upd.here | with_reducible apply Upd.there))); intro H1 hB)
    | (apply bx_maplen; (· exact rfl); (· exact rfl); (· exact Try.underlying64); (· assumption); (· (repeat (first | with_reducible exact At.here | with_reducible apply At.there))))
    | (apply op_len_b; (· exact rfl); (· exact rfl); (· assumption); (· (repeat (first | with_reducible exact InF.here | with_reducible assumption | with_reducible apply InF.there))))
    | (apply op_told; (· exact rfl); (· exact hwk))
    | (apply op_at; (· exact rfl))
    | fail)
  have hB := hB.drop1.drop1.drop1.one
  refine ⟨rfl, ⟨_, _, _, k + 1, _, q.step, M.eraseIdx i, junk_facts (⟨by omega, hord', hB⟩) rfl rfl⟩, ?_⟩
  show n - ((k + 1 : Nat) : Int).toNat < n - k
  omega
end Go.Det.Q

/- KernelOrders: the law's own text. -/
namespace Go.Det.Q
open Go Go.Det Go.Proofs
set_option maxRecDepth 4000
set_option maxHeartbeats 16000000
set_option linter.unusedVariables false
set_option linter.unusedSimpArgs false
theorem law10 (H : DH) (p : Option (Nat × Nat × Nat)) (n c : Nat) (ex : Bool) (hz : Int) (hl : ActsAt H p n) (hh : 0 ≤ hz ∧ hz ≤ 65535) :
    DWF Try.prog Try.f10 ⟨[.sl p n c ex, .int .u16 hz] ++ List.replicate (225 - 2) undefD, H⟩ (retR Try.prog [.tmp 4] (fun r H' => r = .bool true)) := by
  have hB : Bx H H [] [] := Bx.init (fun f hf => by cases hf)
  obtain ⟨ho, hne⟩ := ord_new hh
  have hne' : (kNewE hz != 0) = false := by rw [hne]; rfl
  have hw1 : DV.int .i64 (IntKind.i64.wrap hz) = .int .i64 hz := by rw [wrapI (by omega)]
  refine dw_enter rfl ?_
  dsimp only [List.cons_append, List.nil_append, List.length_cons, List.length_nil, List.replicate_succ, List.replicate_zero, Nat.reduceAdd, Nat.reduceSub]
  by_cases hbig : decide ((n : Int) > 120) = true
  · skip
    repeat' (first
      | dsimp only [putD, DV.cells, DH.new_next, DH.set_next, List.length_cons, List.length_nil, Nat.reduceAdd, List.set_cons_zero, List.set_cons_succ, getD_zero, getD_succ, fieldAt_zero, fieldAt_succ, thenD, blockD, retR]
      | apply dw_seq
      | (apply dw_region okK5)
      | (apply dw_cond_t; (· exact rfl); (· (first | with_reducible assumption | with_reducible rfl | decide)))
      | (apply dw_cond_f; (· exact rfl); (· (first | with_reducible assumption | with_reducible rfl | decide)))
      | apply dw_skip
      | apply dw_ret
      | apply ops_nil
      | (apply ops_plain; (· exact rfl))
      | (apply op_call; (· exact rfl); (· exact rfl); (· exact rfl); refine call_table (g := gLive) rfl rfl ?_)
      | (apply op_at; (· exact rfl))
      | (refine ⟨_, rfl, ?_⟩)
      | fail)
  · have hbig' : decide ((n : Int) > 120) = false := by simpa using hbig
    have hn : n ≤ 120 := by simp only [decide_eq_false_iff_not] at hbig'; omega
    repeat' (first
      | dsimp only [putD, DV.cells, DH.new_next, DH.set_next, List.length_cons, List.length_nil, Nat.reduceAdd, List.set_cons_zero, List.set_cons_succ, getD_zero, getD_succ, fieldAt_zero, fieldAt_succ, thenD, blockD, retR]
      | apply dw_seq
      | (apply dw_region okK5)
      | (apply dw_cond_f; (· exact rfl); (· (first | with_reducible assumption | with_reducible rfl | decide)))
      | apply dw_block
      | apply dw_skip
      | apply ops_nil
      | (apply ops_plain; (· exact rfl))
      | (apply op_call; (· exact rfl); (· exact rfl); (· exact rfl); refine call_table (g := gLive) rfl rfl ?_)
      | (apply op_call; (· exact rfl); (· exact rfl); (· exact rfl); (apply new_b; (· assumption); intro hB))
      | (apply bx_makemap; (· exact rfl); (· exact rfl); (· assumption); intro b1 H1 hB)
      | (apply bx_store0; (· exact rfl); (· exact rfl); (· exact rfl); (· assumption); (· (first | (dsimp only [putD, DV.cells, DH.new_next, DH.set_next, List.length_cons, List.length_nil, Nat.reduceAdd, List.set_cons_zero, List.set_cons_succ, getD_zero, getD_succ, fieldAt_zero, fieldAt_succ, thenD, blockD, retR, Sv.cells]; done) | (dsimp only [putD, DV.cells, DH.new_next, DH.set_next, List.length_cons, List.length_nil, Nat.reduceAdd, List.set_cons_zero, List.set_cons_succ, getD_zero, getD_succ, fieldAt_zero, fieldAt_succ, thenD, blockD, retR, Sv.cells]; exact rfl) | exact rfl)); (· (repeat (first | with_reducible exact Upd.here | with_reducible apply Upd.there))); (· exact rfl); (· exact rfl); (· exact rfl); (· exact rfl); intro H1 hB)
      | (apply bx_alloc; (· exact rfl); (· exact zero48); (· (first | (dsimp only [putD, DV.cells, DH.new_next, DH.set_next, List.length_cons, List.length_nil, Nat.reduceAdd, List.set_cons_zero, List.set_cons_succ, getD_zero, getD_succ, fieldAt_zero, fieldAt_succ, thenD, blockD, retR, Sv.cells]; done) | (dsimp only [putD, DV.cells, DH.new_next, DH.set_next, List.length_cons, List.length_nil, Nat.reduceAdd, List.set_cons_zero, List.set_cons_succ, getD_zero, getD_succ, fieldAt_zero, fieldAt_succ, thenD, blockD, retR, Sv.cells]; exact rfl) | exact rfl)); (· exact rfl); (· exact rfl); (· assumption); intro b1 H1 hB)
      | (apply op_told; (· exact rfl); (· exact hw1))
      | (apply op_at; (· exact rfl))
      | fail)
    refine dw_loop (Inv10 H p n c ex hz) (fun st => n - kOf st 47) (⟨_, _, _, 0, _, _, [], junk_facts (⟨Nat.zero_le _, ho, hB⟩) rfl rfl⟩) ?_
    rintro st ⟨b6, b8, Hk, k, sq, q, M, J, ⟨hk, hord, hB⟩, rfl⟩
    by_cases hlt : k < n
    · obtain ⟨loc, i0, ro, rs, a, b, cc, d, rfl, hloc, hobj, hrow, ha, hb', hcc, hd⟩ := hl k hlt
      have hkinds : a.tmod 4 = 0 ∨ a.tmod 4 = 1 ∨ a.tmod 4 = 2 ∨ a.tmod 4 = 3 := by
        rw [Int.tmod_eq_emod_of_nonneg ha.1]; omega
      rcases hkinds with hm | hm | hm | hm
      · exact ((post10_0 hn hlt hh hord hB hloc hobj hrow ha hb' hcc hd hm).dw rfl rfl).mono (by rintro e st' ⟨rfl, h1, h2⟩; exact ⟨h1, h2⟩)
      · exact ((post10_1 hn hlt hh hord hB hloc hobj hrow ha hb' hcc hd hm).dw rfl rfl).mono (by rintro e st' ⟨rfl, h1, h2⟩; exact ⟨h1, h2⟩)
      · exact ((cancel10 hn hlt hh hord hB hloc hobj hrow ha hb' hcc hd hm).dw rfl rfl).mono (by rintro e st' ⟨rfl, h1, h2⟩; exact ⟨h1, h2⟩)
      · rcases ord_step hord with ⟨he, h1, h2, h3, i, h4, h5⟩ | ⟨he, h1, h2⟩ | ⟨he, h1, h2⟩
        · exact ((step10_some hn hlt hh hord hB hloc hobj hrow ha hb' hcc hd hm he h1 h2 h3 h4 h5).dw rfl rfl).mono (by rintro e st' ⟨rfl, h1, h2⟩; exact ⟨h1, h2⟩)
        · exact ((step10_none hn hlt hh hord hB hloc hobj hrow ha hb' hcc hd hm he h1 h2 (step_none (by rw [he]; decide))).dw rfl rfl).mono (by rintro e st' ⟨rfl, h1, h2⟩; exact ⟨h1, h2⟩)
        · exact ((step10_over hn hlt hh hord hB hloc hobj hrow ha hb' hcc hd hm he h1 h2 (step_none (by rw [he]; decide))).dw rfl rfl).mono (by rintro e st' ⟨rfl, h1, h2⟩; exact ⟨h1, h2⟩)
    · obtain rfl : k = n := by omega
      have hc : decide ((k : Int) < (k : Int)) = false := by simp
      repeat' (first
        | dsimp only [putD, DV.cells, DH.new_next, DH.set_next, List.length_cons, List.length_nil, Nat.reduceAdd, List.set_cons_zero, List.set_cons_succ, getD_zero, getD_succ, fieldAt_zero, fieldAt_succ, thenD, blockD, retR]
        | apply dw_seq
        | (apply dw_region okK5)
        | (apply dw_cond_f; (· exact rfl); (· (first | with_reducible assumption | with_reducible rfl | decide)))
        | apply dw_ret
        | apply dw_exit
        | apply ops_nil
        | (apply ops_plain; (· exact rfl))
        | (apply op_at; (· exact rfl))
        | (refine ⟨_, rfl, ?_⟩)
        | fail)
theorem acts_in {H : DH} (hw : WF H) {d : DV} (h : TArg Try.prog H 62 d) : ∃ p n c ex, d = .sl p n c ex ∧ ActsAt H p n := by
  have hsz : Try.prog.cellsOf 66 = 4 := by kernel_rfl
  have c5 : Try.prog.cellsOf 5 = 1 := by kernel_rfl
  have c63 : Try.prog.cellsOf 63 = 1 := by kernel_rfl
  have h' := targ_one (by rw [Try.underlying62]; simp) (by rw [Try.underlying62]; simp) h
  rcases typed_slice Try.underlying62 h' with h | ⟨l, n, rs, h, ho, hn, hm, hr⟩
  · cases h
    exact ⟨none, 0, 0, true, rfl, fun k hk => by omega⟩
  · rw [hsz] at h ho
    cases h
    refine ⟨_, _, _, _, rfl, fun k hk => ?_⟩
    obtain ⟨h1, h2⟩ := typed_struct (fs := _) Try.underlying66 (hr k _ (List.getElem?_eq_getElem (by omega)))
    rw [hsz] at h1
    obtain ⟨x0, x1, x2, x3, hx⟩ := len4 h1
    rw [hx] at h2
    simp only [List.forall_mem_cons, c5, c63, List.drop_zero, List.drop_succ_cons, List.take_succ_cons, List.take_zero] at h2
    obtain ⟨t0, t1, t2, t3, _⟩ := h2
    obtain ⟨a, e0, w0⟩ := typed_int Try.underlying5 t0
    obtain ⟨b, e1, w1⟩ := typed_int Try.underlying63 t1
    obtain ⟨c, e2, w2⟩ := typed_int Try.underlying5 t2
    obtain ⟨d, e3, w3⟩ := typed_int Try.underlying5 t3
    cases e0; cases e1; cases e2; cases e3
    refine ⟨l, 0, true, rs, a, b, c, d, rfl, hw _ _ ho, ho, by rw [Nat.zero_add, List.getElem?_eq_getElem (by omega), hx], ?_⟩
    simp [Lit.wf, IntKind.min, IntKind.max, IntKind.signed, IntKind.bits] at w0 w1 w2 w3
    omega
theorem row10 (H : DH) (xs : List DV) (hr : RO H) (hw : WF H) (hx : TArgs Try.prog H [62, 63] xs) : DWF Try.prog Try.f10 ⟨xs ++ List.replicate (225 - xs.length) undefD, H⟩ (retR Try.prog [.tmp 4] (fun r _ => r = .bool true)) := by
  match xs, hx with
  | [a, b], ⟨h1, h2, _⟩ =>
    obtain ⟨p, n, c, ex, rfl, hl⟩ := acts_in hw h1
    obtain ⟨z, e, w⟩ := typed_int Try.underlying63 (targ_one (by rw [Try.underlying63]; simp) (by rw [Try.underlying63]; simp) h2)
    cases e
    simp [Lit.wf, IntKind.min, IntKind.max, IntKind.signed, IntKind.bits] at w
    exact law10 H p n c ex z hl (by omega)
end Go.Det.Q

/- KernelOrders answers true, whatever it is handed; nothing is asked of the arguments but their types. -/
namespace Go.Proofs.Ytpgobchpnjgbdaa.kernelOrders
open Go Go.Det Go.Det.Q Go.ChangeShapes Go.WideShapes Go.ChangeAt Go.RowKit
set_option linter.unusedVariables false
set_option linter.unusedSimpArgs false
theorem own : ownKnob Try.prog.godebug = none := by kernel_rfl
theorem laidOut : laidOutB Try.prog = true := by kernel_rfl
set_option maxRecDepth 100000 in
theorem lifted (os : Os) (started : os.Started) (H : Type) (enc : TypeId × Value → H) :
    ReturnsInHanded {} Try.checked os 10 .any (Rows.kernelOrdersSpec.pre6 enc Try.prog Try.f10 Rows.kernelOrdersRow.domain false) (Rows.kernelOrdersSpec.post enc Try.prog Try.f10 false true false false) := by
  exact row_lawD (C := Try.checked) (ts := [62, 63]) (rt := 4) (n := 5) own started (by kernel_rfl) Try.func10
    (ChangeSpec.witness6 (enc := enc) (C := Try.checked) false ⟨#[], #[.slice none 0 0, .int .u16 0], []⟩ 8 (by kernel_rfl) (by kernel_rfl) (by kernel_rfl) (by kernel_rfl))
    rfl Try.params10 rfl Try.underlying4 (by kernel_rfl) (by kernel_rfl) laidOut rfl
    (by intro ds h; match ds, h with | [_, _], _ => rfl)
    (fun H xs hr hw hx => row10 H xs hr hw hx)
theorem over : Rows.kernelOrdersRow.holds Try.pinned (OpenSpec.ofChange Rows.kernelOrdersSpec) :=
  OpenClaim.holds_of_wide 10 Try.f10 rfl rfl rfl rfl rfl rfl rfl ⟨rfl, rfl, rfl, rfl, rfl⟩ rfl rfl rfl rfl rfl (by kernel_rfl) Try.func10 (by kernel_rfl)
    (of_decide_eq_true (by kernel_rfl)) (by unfold Func.isWrapper; first | (rw [if_pos (by decide +kernel)]; kernel_rfl) | (rw [if_neg (by decide +kernel)]; exact ⟨rfl, rfl⟩))
    (fun os started H enc _ => lifted os started H enc)
theorem proved : Rows.KernelOrdersSaid := over
end Go.Proofs.Ytpgobchpnjgbdaa.kernelOrders
namespace Go.Proofs.Ytpgobchpnjgbdaa
/-- The row, under a short name, for the claim. -/
theorem kernelOrders_holds : Rows.KernelOrdersSaid := kernelOrders.proved
#print axioms kernelOrders_holds
end Go.Proofs.Ytpgobchpnjgbdaa
