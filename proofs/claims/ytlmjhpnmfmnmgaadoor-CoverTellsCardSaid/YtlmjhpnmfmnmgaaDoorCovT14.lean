/- Code that ranges over a map: whatever order the entries come in. -/
import Derived.Maps.RangeRun
import Derived.Test.YtlmjhpnmfmnmgaaDoorCovT13
namespace Go.Det
set_option linter.unusedVariables false
set_option linter.unusedSimpArgs false
open Go.ChangeMaps (setBlock)
section
variable {P : Program} {X : Ext}
/-- Whatever is drawn: a code comes to an exit of which Q holds. -/
structure DW (P : Program) (c : Code) (st : DSt) (Q : DExit → DSt → Prop) : Prop where
  wp : ∀ (ρ : Rho) (a : Act) (w : World) (R : Exit → Act → World → Prop), EnvR ρ st.env a.tmps → a.defers = [] → Agree ρ st.H w →
      (∀ ρ' a' w' e st', Q e st' → EnvR ρ' st'.env a'.tmps → a'.defers = [] → Moves ρ st.H w ρ' st'.H w' → R e.toExit a' w') → c.wp P R a w
theorem DW.of (hX : ProgOk P X) {c : Code} (hc : CodeOk P c) {st : DSt} {Q : DExit → DSt → Prop} (h : Dwp P X c st Q) : DW P c st Q := by
  obtain ⟨k, e, st', h1, h2⟩ := h.ex
  exact ⟨fun ρ a w R he hd ha hq => exec_sound hX.mix (callD_sound hX k) k c hc st e st' h1 ρ a w R he hd ha fun ρ' a' w' g1 g2 g3 => hq ρ' a' w' e st' h2 g1 g2 g3⟩
theorem DW.mono {c : Code} {st : DSt} {Q Q' : DExit → DSt → Prop} (h : DW P c st Q) (k : ∀ e st', Q e st' → Q' e st') : DW P c st Q' :=
  ⟨fun ρ a w R he hd ha hq => h.wp ρ a w R he hd ha fun ρ' a' w' e st' h1 => hq ρ' a' w' e st' (k e st' h1)⟩
/-! ### operations that the reading does not tell -/
end
end Go.Det

/- Ranging over a map: the loop, whatever order its entries come in. -/
namespace Go.Det
set_option linter.unusedVariables false
set_option linter.unusedSimpArgs false
open Go.ChangeMaps (setBlock)
/-- While a map is ranged over it is not told; a place leads to the iterator, of which nothing is told. -/
def hide (H : DH) (m : Nat) : DH := { next := H.next + 1, obj := fun l => if l = m then none else H.obj l }
theorem EntsR.mem {ρ : Rho} {xs : List (DV × DV)} {es : List MapEntry} (h : EntsR ρ xs es) : ∀ e ∈ es, ∃ x ∈ xs, EntR ρ x e := by
  induction h with
  | nil => intro e he; cases he
  | cons a _ ih =>
    intro e he
    rcases List.mem_cons.mp he with rfl | he
    · exact ⟨_, List.mem_cons_self, a⟩
    · obtain ⟨x, hx, hr⟩ := ih e he
      exact ⟨x, List.mem_cons_of_mem _ hx, hr⟩
/-- A loop over a map under way. -/
structure Ranges (ρ0 : Rho) (H0 : DH) (w0 : World) (m bm clock : Nat) (ents : Array MapEntry) (seen : Array Nat) (ρ : Rho) (H : DH) (w : World) : Prop where
  ag : Agree ρ H w
  le : ρ0.le ρ
  itp : ρ H0.next = some ⟨w0.heap.size, 0, 0, 0⟩
  ab : Above (hide H0 m) H
  os : w.os = w0.os
  tape : w.tape = w0.tape
  output : w.output = w0.output
  drawn : Dr w0 w
  size : w0.heap.size < w.heap.size
  same : ∀ b, b < w0.heap.size → ¬ Own ρ0 (hide H0 m) b → w.heap[b]? = w0.heap[b]?
  own : ∀ b, Own ρ H b → Own ρ0 (hide H0 m) b ∨ w0.heap.size ≤ b
  fresh : ∀ l pl, ρ l = some pl → ρ0 l = some pl ∨ w0.heap.size ≤ pl.block ∨ Own ρ0 (hide H0 m) pl.block
  far : ∀ l pl, ρ l = some pl → H0.next < l → pl.block ≠ w0.heap.size ∧ pl.block ≠ bm
  it : w.heap[w0.heap.size]? = some (.mapIter (some bm) clock seen clock)
  mp : w.heap[bm]? = some (.map ents clock)
section
variable {P : Program} {X : Ext} {ρ0 ρ : Rho} {H0 H : DH} {w0 w : World} {m bm clock : Nat} {ents : Array MapEntry} {seen : Array Nat} {es : List (DV × DV)} {plm : Pl}
theorem own_hide {b : Nat} (h : Own ρ0 (hide H0 m) b) : Own ρ0 H0 b := by
  obtain ⟨l, o, pl, h1, h2, h3, h4⟩ := h
  simp only [hide] at h1
  split at h1
  · cases h1
  · exact ⟨l, o, pl, h1, h2, h3, h4⟩
theorem Ranges.nl (h : Ranges ρ0 H0 w0 m bm clock ents seen ρ H w) (ha0 : Agree ρ0 H0 w0) (hm : H0.obj m = some (.map es)) (hp : ρ0 m = some plm) (hbm : plm.block = bm) {l : Nat} {o : DObj} {pl : Pl} (hl : H.obj l = some o) (hpl : ρ l = some pl) : pl.block ≠ w0.heap.size ∧ pl.block ≠ bm := by
  rcases Nat.lt_or_ge H0.next l with hlt | hge
  · exact h.far l pl hpl hlt
  · have e := h.ab.same l (show l < H0.next + 1 by omega)
    rw [hl] at e
    simp only [hide] at e
    split at e
    · cases e
    · rename_i hne
      obtain ⟨pl0, h1, h2⟩ := ha0.obj l o e.symm
      have := h.le _ _ h1
      rw [hpl] at this
      cases this
      refine ⟨Nat.ne_of_lt (ha0.lies l pl h1), fun e2 => ?_⟩
      exact ha0.apart m l _ o plm pl (fun e => hne e.symm) hm e.symm rfl hp h1 (by rw [hbm, e2])
theorem Ranges.step (h : Ranges ρ0 H0 w0 m bm clock ents seen ρ H w) (ha0 : Agree ρ0 H0 w0) (hm : H0.obj m = some (.map es)) (hp : ρ0 m = some plm) (hbm : plm.block = bm) {w1 : World} (hw : w1 = w ∨ w1 = w.drew) (seen' : Array Nat) :
    Ranges ρ0 H0 w0 m bm clock ents seen' ρ H (setBlock w1 w0.heap.size (.mapIter (some bm) clock seen' clock)) := by
  have hh : w1.heap = w.heap := by rcases hw with rfl | rfl <;> rfl
  have e1 : w1.os = w.os ∧ w1.tape = w.tape ∧ w1.output = w.output ∧ w.drawn ≤ w1.drawn := by
    rcases hw with rfl | rfl
    · exact ⟨rfl, rfl, rfl, Nat.le_refl _⟩
    · exact ⟨rfl, rfl, rfl, Nat.le_succ _⟩
  have hsz : (setBlock w1 w0.heap.size (.mapIter (some bm) clock seen' clock)).heap.size = w.heap.size := by simp [setBlock, hh]
  have hget : ∀ k, k ≠ w0.heap.size → (setBlock w1 w0.heap.size (.mapIter (some bm) clock seen' clock)).heap[k]? = w.heap[k]? := by
    intro k hk
    simp only [setBlock, hh]
    rw [Array.getElem?_setIfInBounds, if_neg (fun e => hk e.symm)]
  have hbms : bm < w0.heap.size := by rw [← hbm]; exact ha0.lies m plm hp
  refine { ag := ⟨h.ag.low, fun l pl hl => by rw [hsz]; exact h.ag.lies l pl hl, fun l o hl => ?_, h.ag.apart⟩, le := h.le, itp := h.itp, ab := h.ab, os := e1.1.trans h.os, tape := e1.2.1.trans h.tape, output := e1.2.2.1.trans h.output, drawn := h.drawn.trans (Dr.of e1.2.2.2), size := by rw [hsz]; exact h.size, same := fun b hb hn => by rw [hget b (Nat.ne_of_lt hb)]; exact h.same b hb hn, own := h.own, fresh := h.fresh, far := h.far, it := ?_, mp := by rw [hget bm (Nat.ne_of_lt hbms)]; exact h.mp }
  · obtain ⟨pl, h1, h2⟩ := h.ag.obj l o hl
    refine ⟨pl, h1, ?_⟩
    rw [hget _ (h.nl ha0 hm hp hbm hl h1).1]
    exact h2
  · have := h.size
    simp only [setBlock, hh]
    rw [Array.getElem?_setIfInBounds, if_pos rfl, if_pos this]
theorem Ranges.moves (h : Ranges ρ0 H0 w0 m bm clock ents seen ρ H w) (ha0 : Agree ρ0 H0 w0) (hm : H0.obj m = some (.map es)) (hp : ρ0 m = some plm) (hbm : plm.block = bm) {ρ' : Rho} {H' : DH} {w' : World} (k : Moves ρ H w ρ' H' w') (hab : Above (hide H0 m) H') :
    Ranges ρ0 H0 w0 m bm clock ents seen ρ' H' w' := by
  have hbms : bm < w0.heap.size := by rw [← hbm]; exact ha0.lies m plm hp
  have nown : ∀ b, (b = w0.heap.size ∨ b = bm) → ¬ Own ρ H b := by
    rintro b hb ⟨l, o, pl, h1, h2, h3, h4⟩
    obtain ⟨n1, n2⟩ := h.nl ha0 hm hp hbm h1 h3
    rcases hb with rfl | rfl
    · exact n1 h4
    · exact n2 h4
  have hsz := h.size
  refine { ag := k.agree, le := Rho.le_trans h.le k.le, itp := k.le _ _ h.itp, ab := hab, os := k.os.trans h.os, tape := k.tape.trans h.tape, output := k.output.trans h.output, drawn := h.drawn.trans k.drawn, size := Nat.lt_of_lt_of_le h.size k.size, same := fun b hb hn => ?_, own := fun b hb => ?_, fresh := fun l pl hl => ?_, far := fun l pl hl hlt => ?_, it := (k.same _ h.size (nown _ (.inl rfl))).trans h.it, mp := (k.same _ (by omega) (nown _ (.inr rfl))).trans h.mp }
  · refine (k.same b (by omega) fun ho => ?_).trans (h.same b hb hn)
    rcases h.own b ho with h1 | h1
    · exact hn h1
    · omega
  · rcases k.own b hb with h1 | h1
    · exact h.own b h1
    · exact .inr (by omega)
  · rcases k.fresh l pl hl with h1 | h1 | h1
    · exact h.fresh l pl h1
    · exact .inr (.inl (by omega))
    · rcases h.own _ h1 with h2 | h2
      · exact .inr (.inr h2)
      · exact .inr (.inl h2)
  · rcases k.fresh l pl hl with h1 | h1 | h1
    · exact h.far l pl h1 hlt
    · exact ⟨by omega, by omega⟩
    · obtain ⟨l2, o2, pl2, g1, g2, g3, g4⟩ := h1
      have := h.nl ha0 hm hp hbm g1 g3
      rw [← g4]; exact this
theorem Ranges.done (h : Ranges ρ0 H0 w0 m bm clock ents seen ρ H w) (ha0 : Agree ρ0 H0 w0) (hm : H0.obj m = some (.map es)) (hp : ρ0 m = some plm) (hbm : plm.block = bm) (hob : ObjR ρ0 plm (some (.map ents clock)) (.map es)) :
    Moves ρ0 H0 w0 ρ (H.set m (some (.map es))) w := by
  have hml : m < H0.next := ha0.low m plm hp
  refine { le := h.le, agree := ⟨h.ag.low, h.ag.lies, fun l o hl => ?_, fun l l' o o' pl pl' hne hl hl' hro hpl hpl' => ?_⟩, os := h.os, tape := h.tape, output := h.output, drawn := h.drawn, size := Nat.le_of_lt h.size, same := fun b hb hn => h.same b hb fun ho => hn (own_hide ho), own := fun b hb => ?_, fresh := fun l pl hl => (h.fresh l pl hl).elim .inl fun h1 => .inr (h1.elim .inl fun h2 => .inr (own_hide h2)) }
  · simp only [DH.set] at hl
    split at hl
    · rename_i e
      subst e
      cases hl
      refine ⟨plm, h.le _ _ hp, ?_⟩
      rw [hbm, h.mp]
      exact hob.mono h.le
    · exact h.ag.obj l o hl
  · simp only [DH.set] at hl hl'
    split at hl
    · rename_i e
      subst e
      have := h.le _ _ hp
      rw [hpl] at this; cases this
      rw [if_neg (fun e => hne e.symm)] at hl'
      rw [hbm]
      exact fun e => (h.nl ha0 hm hp hbm hl' hpl').2 e.symm
    · split at hl'
      · rename_i e
        subst e
        have := h.le _ _ hp
        rw [hpl'] at this; cases this
        rw [hbm]
        exact (h.nl ha0 hm hp hbm hl hpl).2
      · exact h.ag.apart l l' o o' pl pl' hne hl hl' hro hpl hpl'
  · obtain ⟨l, o, pl, h1, h2, h3, h4⟩ := hb
    simp only [DH.set] at h1
    split at h1
    · rename_i e
      subst e
      have := h.le _ _ hp
      rw [h3] at this; cases this
      exact .inl ⟨l, _, plm, hm, rfl, hp, h4⟩
    · rcases h.own b ⟨l, o, pl, h1, h2, h3, h4⟩ with h5 | h5
      · exact .inl (own_hide h5)
      · exact .inr h5
end
end Go.Det

/- Ranging over a map: the rule. -/
namespace Go.Det
set_option linter.unusedVariables false
set_option linter.unusedSimpArgs false
open Go.ChangeMaps (setBlock)
section
variable {P : Program} {X : Ext}
end
end Go.Det

/- A row out of what a code comes to, whatever is drawn. -/
namespace Go.Det
set_option linter.unusedVariables false
set_option linter.unusedSimpArgs false
open Go.ChangeShapes Go.WideShapes Go.RowKit
section
variable {P : Program} {A : Type} {enc : TypeId × Value → A} {W : World}
end
end Go.Det
