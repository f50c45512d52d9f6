/- What was there stays; tables for functions that read the heap. -/
import Derived.Test.YtphnddoneocfhaaD25
namespace Go.Det
set_option linter.unusedVariables false
set_option linter.unusedSimpArgs false

/-- Nothing of what there was has changed. -/
structure Above (H H' : DH) : Prop where
  le : H.next ≤ H'.next
  same : ∀ l, l < H.next → H'.obj l = H.obj l

theorem Above.refl (H : DH) : Above H H := ⟨Nat.le_refl _, fun _ _ => rfl⟩
theorem Above.trans {A B C : DH} (h : Above A B) (k : Above B C) : Above A C := ⟨Nat.le_trans h.le k.le, fun l hl => (k.same l (Nat.lt_of_lt_of_le hl h.le)).trans (h.same l hl)⟩
theorem Above.new {A B : DH} (h : Above A B) (o : DObj) : Above A (B.new o) := ⟨Nat.le_succ_of_le h.le, fun l hl => by rw [obj_skip (by have := h.le; omega) (h.same l hl)]⟩
theorem Above.set {A B : DH} (h : Above A B) {l : Nat} (hl : A.next ≤ l) (o : Option DObj) : Above A (B.set l o) := ⟨h.le, fun m hm => obj_past (by omega) (h.same m hm)⟩
theorem Above.obj {A B : DH} (h : Above A B) {l : Nat} {x : Option DObj} (hl : l < A.next) (e : A.obj l = x) : B.obj l = x := (h.same l hl).trans e

/-- All places lie below the next. -/
def WF (H : DH) : Prop := ∀ l o, H.obj l = some o → l < H.next

theorem Agree.wf {ρ : Rho} {H : DH} {w : World} (h : Agree ρ H w) : WF H := fun l o e => by
  obtain ⟨pl, hp, _⟩ := h.obj l o e
  exact h.low l pl hp

theorem WF.new {H : DH} (h : WF H) (o : DObj) : WF (H.new o) := fun l x e => by
  simp only [DH.new] at e ⊢
  split at e
  · omega
  · have := h l x e; omega

section
variable {P : Program} {X : Ext}

theorem opD_index {H : DH} {cf : CallF} {o : Oper} {t e : TypeId} {x ix : Operand} (ho : o.op = .indexAddr t x ix) {env : List DV} {l i z n c : Nat} {ex : Bool} {j : IntKind} {m : Int} (hx : evalO env x = some (.sl (some (l, i, z)) n c ex)) (hix : evalO env ix = some (.int j m))
    (hu : P.underlying t = some (.slice e)) (hs : sizeT P e = some z) (hm : 0 ≤ m ∧ m < (n : Int)) : opD P cf o env H = some (.ptr (some (l, i + m.toNat, 0)), H) := by
  simp only [opD, ho, mover, reader, pureD, hx, hix, indexAddrD, hu, hs]
  rw [if_neg (by simp), if_neg (by simp), if_pos ⟨trivial, hm⟩]
  rfl

/-- A function that changes nothing of what there was and whose answer leads to no place. -/
theorem ext_read (hX : ProgOk P X) {f : FuncId} {fn : Func} {c : Code} (hf : P.funcs[f]? = some fn) (hb : fn.body = some c) (hx : X f = none) {g : List DV → DH → Option (DV × DH)}
    (hg : ∀ args H r H', WF H → g args H = some (r, H') → H' = H ∧ r.closed = true ∧ CallWp P X f args H fun r' H1 => r' = r ∧ Above H H1) : ExtSound P g f := by
  intro args H r H' h ρ w vs ha hv
  obtain ⟨rfl, hcr, hc⟩ := hg args H r H' ha.wf h
  obtain ⟨k, r', H1, hk, rfl, hab⟩ := hc.ex
  refine callOk_of_calls hf (hX.body f fn c hx hf hb).1 hb ((calls_sound hX hf hb hx hk ha hv).mono fun e w' he => ?_)
  cases e with
  | returned v =>
    obtain ⟨ρ', h1, h2⟩ := he
    exact ⟨ρ, VR.closed _ _ hcr h1, h2.drop ha fun l o e => hab.obj (ha.wf l o e) e⟩
  | panicked ch => exact he.elim
  | outgrown => exact he.elim
end
end Go.Det
