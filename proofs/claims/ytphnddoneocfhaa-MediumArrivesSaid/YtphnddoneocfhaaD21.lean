/- Functions told by a table: those whose answer leads to no place; more rounds tell the same. -/
import Derived.Test.YtphnddoneocfhaaD20
namespace Go.Det
set_option linter.unusedVariables false
set_option linter.unusedSimpArgs false

/-! ### values that lead to no place -/
mutual
def DV.closed : DV → Bool
  | .ptr (some _) | .sl (some _) _ _ _ | .map (some _) => false
  | .func _ a c => DV.closeds a && DV.closeds c
  | .iface _ v => v.closed
  | .agg cs => DV.closeds cs
  | .tuple cs => DV.closeds cs
  | _ => true
def DV.closeds : List DV → Bool
  | [] => true
  | d :: r => d.closed && DV.closeds r
end

mutual
theorem VR.closed {ρ ρ' : Rho} : ∀ (d : DV) (v : Value), d.closed = true → VR ρ d v → VR ρ' d v
  | .bool _, v, _, h => by simpa [VR] using h
  | .int _ _, v, _, h => by simpa [VR] using h
  | .str _, v, _, h => by simpa [VR] using h
  | .ptr none, v, _, h => by simpa [VR] using h
  | .ptr (some _), v, hc, h => by simp [DV.closed] at hc
  | .sl none _ _ _, v, _, h => by simpa [VR] using h
  | .sl (some _) _ _ _, v, hc, h => by simp [DV.closed] at hc
  | .map none, v, _, h => by simpa [VR] using h
  | .map (some _), v, hc, h => by simp [DV.closed] at hc
  | .nilFunc, v, _, h => by simpa [VR] using h
  | .nilIface, v, _, h => by simpa [VR] using h
  | .func fn a c, v, hc, h => by
    simp only [DV.closed, Bool.and_eq_true] at hc
    simp only [VR] at h ⊢
    obtain ⟨x, y, h1, h2, h3⟩ := h
    exact ⟨x, y, h1, VRs.closed a _ hc.1 h2, VRs.closed c _ hc.2 h3⟩
  | .iface t x, v, hc, h => by
    simp only [DV.closed] at hc
    simp only [VR] at h ⊢
    obtain ⟨y, h1, h2⟩ := h
    exact ⟨y, h1, VR.closed x y hc h2⟩
  | .agg cs, v, hc, h => by
    simp only [DV.closed] at hc
    simp only [VR] at h ⊢
    obtain ⟨h0, y, h1, h2⟩ := h
    exact ⟨h0, y, h1, VRs.closed cs _ hc h2⟩
  | .tuple cs, v, hc, h => by
    simp only [DV.closed] at hc
    simp only [VR] at h ⊢
    obtain ⟨y, h1, h2⟩ := h
    exact ⟨y, h1, VRs.closed cs _ hc h2⟩
theorem VRs.closed {ρ ρ' : Rho} : ∀ (ds : List DV) (vs : List Value), DV.closeds ds = true → VRs ρ ds vs → VRs ρ' ds vs
  | [], vs, _, h => by simpa [VRs] using h
  | d :: ds, [], _, h => by simp [VRs] at h
  | d :: ds, v :: vs, hc, h => by
    simp only [DV.closeds, Bool.and_eq_true] at hc
    simp only [VRs] at h ⊢
    obtain ⟨a, b, e, h1, h2⟩ := h
    cases e
    exact ⟨_, _, rfl, VR.closed d _ hc.1 h1, VRs.closed ds _ hc.2 h2⟩
end

/-! ### what was there is told by the places that were there -/
mutual
theorem VR.narrow {ρ ρ' : Rho} (hle : ρ.le ρ') : ∀ (d : DV) (v u : Value), VR ρ d v → VR ρ' d u → VR ρ d u
  | .bool _, v, u, _, h => by simpa [VR] using h
  | .int _ _, v, u, _, h => by simpa [VR] using h
  | .str _, v, u, _, h => by simpa [VR] using h
  | .ptr none, v, u, _, h => by simpa [VR] using h
  | .ptr (some (l, i, o)), v, u, h0, h => by
    simp only [VR] at h0 h ⊢
    obtain ⟨pl, h1, _⟩ := h0
    obtain ⟨pl', h3, h4⟩ := h
    rw [hle _ _ h1] at h3; cases h3
    exact ⟨pl, h1, h4⟩
  | .sl none _ _ _, v, u, _, h => by simpa [VR] using h
  | .sl (some (l, i, z)) _ _ _, v, u, h0, h => by
    simp only [VR] at h0 h ⊢
    obtain ⟨pl, _, _, h1, _⟩ := h0
    obtain ⟨pl', a, c, h3, h4⟩ := h
    rw [hle _ _ h1] at h3; cases h3
    exact ⟨pl, a, c, h1, h4⟩
  | .map none, v, u, _, h => by simpa [VR] using h
  | .map (some l), v, u, h0, h => by
    simp only [VR] at h0 h ⊢
    obtain ⟨pl, h1, _⟩ := h0
    obtain ⟨pl', h3, h4⟩ := h
    rw [hle _ _ h1] at h3; cases h3
    exact ⟨pl, h1, h4⟩
  | .nilFunc, v, u, _, h => by simpa [VR] using h
  | .nilIface, v, u, _, h => by simpa [VR] using h
  | .func fn a c, v, u, h0, h => by
    simp only [VR] at h0 h ⊢
    obtain ⟨x, y, _, h2, h3⟩ := h0
    obtain ⟨x', y', h4, h5, h6⟩ := h
    exact ⟨x', y', h4, VRs.narrow hle a _ _ h2 h5, VRs.narrow hle c _ _ h3 h6⟩
  | .iface t x, v, u, h0, h => by
    simp only [VR] at h0 h ⊢
    obtain ⟨y, _, h2⟩ := h0
    obtain ⟨y', h3, h4⟩ := h
    exact ⟨y', h3, VR.narrow hle x _ _ h2 h4⟩
  | .agg cs, v, u, h0, h => by
    simp only [VR] at h0 h ⊢
    obtain ⟨_, y, _, h2⟩ := h0
    obtain ⟨h9, y', h3, h4⟩ := h
    exact ⟨h9, y', h3, VRs.narrow hle cs _ _ h2 h4⟩
  | .tuple cs, v, u, h0, h => by
    simp only [VR] at h0 h ⊢
    obtain ⟨y, _, h2⟩ := h0
    obtain ⟨y', h3, h4⟩ := h
    exact ⟨y', h3, VRs.narrow hle cs _ _ h2 h4⟩
theorem VRs.narrow {ρ ρ' : Rho} (hle : ρ.le ρ') : ∀ (ds : List DV) (vs us : List Value), VRs ρ ds vs → VRs ρ' ds us → VRs ρ ds us
  | [], vs, us, _, h => by simpa [VRs] using h
  | d :: ds, [], us, h0, h => by simp [VRs] at h0
  | d :: ds, v :: vs, [], h0, h => by simp [VRs] at h
  | d :: ds, v :: vs, u :: us, h0, h => by
    simp only [VRs] at h0 h ⊢
    obtain ⟨a, b, e, h1, h2⟩ := h0
    obtain ⟨a', b', e', h3, h4⟩ := h
    cases e
    cases e'
    exact ⟨_, _, rfl, VR.narrow hle d _ _ h1 h3, VRs.narrow hle ds _ _ h2 h4⟩
end

theorem EntsR.narrow {ρ ρ' : Rho} (hle : ρ.le ρ') {xs : List (DV × DV)} {es : List MapEntry} (h0 : EntsR ρ xs es) : ∀ {es' : List MapEntry}, EntsR ρ' xs es' → EntsR ρ xs es' := by
  induction h0 with
  | nil => intro es' h; cases h; exact .nil
  | cons a _ ih =>
    intro es' h
    cases h with
    | cons b r => exact .cons ⟨VR.narrow hle _ _ _ a.key b.key, VR.narrow hle _ _ _ a.val b.val⟩ (ih r)

theorem ObjR.narrow {ρ ρ' : Rho} (hle : ρ.le ρ') {pl : Pl} {b b' : Option Obj} : ∀ {o : DObj}, ObjR ρ pl b o → ObjR ρ' pl b' o → ObjR ρ pl b' o
  | .rows _ _ _, h0, h => ⟨h.1, h.2.1, fun i r hr => ⟨(h.2.2.1 i r hr).1, fun j d hd => by
      obtain ⟨_, c0, _, v0⟩ := (h0.2.2.1 i r hr).2 j d hd
      obtain ⟨h1, c, hc, hv⟩ := (h.2.2.1 i r hr).2 j d hd
      exact ⟨h1, c, hc, VR.narrow hle _ _ _ v0 hv⟩⟩, h.2.2.2⟩
  | .map _, h0, h => by
    obtain ⟨_, _, _, e0⟩ := h0
    obtain ⟨ents, clock, hb, he⟩ := h
    exact ⟨ents, clock, hb, EntsR.narrow hle e0 he⟩
  | .iter _ _, _, h => h

/-- What was made behind is forgotten. -/
theorem Moves.drop {ρ ρ1 : Rho} {H H1 : DH} {w w' : World} (ha : Agree ρ H w) (h : Moves ρ H w ρ1 H1 w') (hk : ∀ l o, H.obj l = some o → H1.obj l = some o) : Moves ρ H w ρ H w' where
  le := Rho.le_refl _
  agree := {
    low := ha.low
    lies := fun l pl e => Nat.lt_of_lt_of_le (ha.lies l pl e) h.size
    obj := fun l o e => by
      obtain ⟨pl, hp, ho⟩ := ha.obj l o e
      obtain ⟨pl', hp', ho'⟩ := h.agree.obj l o (hk l o e)
      rw [h.le _ _ hp] at hp'; cases hp'
      exact ⟨pl, hp, ho.narrow h.le ho'⟩
    apart := ha.apart }
  os := h.os
  tape := h.tape
  output := h.output
  size := h.size
  same := h.same
  own := fun b hb => .inl hb

section
variable {P : Program} {X : Ext}

theorem callOk_of_calls {f : FuncId} {fn : Func} {c : Code} (hf : P.funcs[f]? = some fn) (hn : (fn.name == "runtime.NumGoroutine") = false) (hb : fn.body = some c) {args : Array Value} {w : World} {K : Value → World → Prop}
    (h : Calls P f args w fun | .returned v, w' => K v w' | _, _ => False) : CallOk P f args w K := by
  intro o a next Q hq
  rw [Go.MuLone.run_callFunc_enter hf hn hb, Oper.upon_enter]
  refine h.mono fun e w' he => ?_
  cases e with
  | returned v => exact hq v w' he
  | panicked ch => exact he.elim
  | outgrown => exact he.elim

/-- A function whose arguments and whose answer lead to no place: its table may be told from an empty heap. -/
theorem ext_closed (hX : ProgOk P X) {f : FuncId} {fn : Func} {c : Code} (hf : P.funcs[f]? = some fn) (hb : fn.body = some c) (hx : X f = none) {g : List DV → DH → Option (DV × DH)}
    (hg : ∀ args H r H', g args H = some (r, H') → H' = H ∧ DV.closeds args = true ∧ r.closed = true ∧ ∃ k H1, callD P X k f args ⟨0, fun _ => none⟩ = some (r, H1)) : ExtSound P g f := by
  intro args H r H' h ρ w vs ha hv
  obtain ⟨rfl, hca, hcr, k, H1, hk⟩ := hg args H r H' h
  refine callOk_of_calls hf (hX.body f fn c hx hf hb).1 hb ((calls_sound hX hf hb hx hk (empty_agree (W := w)) (VRs.closed (ρ := ρ) _ _ hca hv)).mono fun e w' he => ?_)
  cases e with
  | returned v =>
    obtain ⟨ρ', h1, h2⟩ := he
    have hsame : ∀ b, b < w.heap.size → w'.heap[b]? = w.heap[b]? := fun b hb => h2.same b hb fun ⟨l, o, pl, ho, _⟩ => by cases ho
    refine ⟨ρ, VR.closed _ _ hcr h1, Rho.le_refl _, ⟨ha.low, fun l pl e => Nat.lt_of_lt_of_le (ha.lies l pl e) h2.size, fun l o e => ?_, ha.apart⟩, h2.os, h2.tape, h2.output, h2.size, fun b hb _ => hsame b hb, fun b hb => .inl hb⟩
    obtain ⟨pl, hp, ho⟩ := ha.obj l o e
    exact ⟨pl, hp, by rw [hsame _ (ha.lies l pl hp)]; exact ho⟩
  | panicked ch => exact he.elim
  | outgrown => exact he.elim

/-- A function that changes nothing of what there was and whose answer leads to no place. -/
theorem ext_drop (hX : ProgOk P X) {f : FuncId} {fn : Func} {c : Code} (hf : P.funcs[f]? = some fn) (hb : fn.body = some c) (hx : X f = none) {g : List DV → DH → Option (DV × DH)}
    (hg : ∀ args H r H', g args H = some (r, H') → H' = H ∧ r.closed = true ∧ ∃ k H1, callD P X k f args H = some (r, H1) ∧ ∀ l o, H.obj l = some o → H1.obj l = some o) : ExtSound P g f := by
  intro args H r H' h ρ w vs ha hv
  obtain ⟨rfl, hcr, k, H1, hk, hkeep⟩ := hg args H r H' h
  refine callOk_of_calls hf (hX.body f fn c hx hf hb).1 hb ((calls_sound hX hf hb hx hk ha hv).mono fun e w' he => ?_)
  cases e with
  | returned v =>
    obtain ⟨ρ', h1, h2⟩ := he
    exact ⟨ρ, VR.closed _ _ hcr h1, h2.drop ha hkeep⟩
  | panicked ch => exact he.elim
  | outgrown => exact he.elim

/-! ### the functions that a proof reads by their text, and those it has a table for -/
def Xof (L : List FuncId) (E : List (FuncId × (List DV → DH → Option (DV × DH)))) : Ext := fun f =>
  match E.lookup f with
  | some g => some g
  | none => if L.contains f then none else some fun _ _ => none

def okB (P : Program) (f : FuncId) : Bool :=
  match P.funcs[f]? with
  | some fn => match fn.body with
    | some c => !(fn.name == "runtime.NumGoroutine") && codeOk P c
    | none => true
  | none => true

theorem ext_nothing (f : FuncId) : ExtSound P (fun _ _ => none) f := fun args H r H' h => by cases h

theorem progOk_of {L : List FuncId} {E : List (FuncId × (List DV → DH → Option (DV × DH)))} (hmix : P.follows .mixedOrders = true) (hL : L.all (okB P) = true) (hE : ∀ f g, (f, g) ∈ E → ExtSound P g f) : ProgOk P (Xof L E) where
  mix := hmix
  body := fun f fn c hx hf hb => by
    unfold Xof at hx
    split at hx
    · cases hx
    · split at hx
      · rename_i hc
        have := List.all_eq_true.mp hL f (List.contains_iff_mem.mp hc)
        unfold okB at this
        rw [hf] at this
        simp only [hb, Bool.and_eq_true, Bool.not_eq_true'] at this
        exact ⟨this.1, codeOk_spec hmix this.2⟩
      · cases hx
  ext := fun f g hx => by
    unfold Xof at hx
    split at hx
    · rename_i g' hg
      cases hx
      exact hE f g (by
        clear hE
        induction E with
        | nil => cases hg
        | cons x E ih =>
          obtain ⟨a, b⟩ := x
          simp only [List.lookup] at hg
          split at hg
          · rename_i he
            cases hg
            have : f = a := by simpa using he
            subst this
            exact List.mem_cons_self
          · exact List.mem_cons_of_mem _ (ih hg))
    · split at hx
      · cases hx
      · cases hx; exact ext_nothing f

/-! ### more rounds -/
def CFle (cf cf' : CallF) : Prop := ∀ f a H r, cf f a H = some r → cf' f a H = some r

theorem CFle.refl (cf : CallF) : CFle cf cf := fun _ _ _ _ h => h

theorem opD_mono {cf cf' : CallF} (h : CFle cf cf') {o : Oper} {env : List DV} {H : DH} {r : DV × DH} (e : opD P cf o env H = some r) : opD P cf' o env H = some r := by
  unfold opD at *
  split
  · rename_i hop
    rw [hop] at e
    simp only at e ⊢
    split <;> rename_i hc <;> rw [hc] at e <;> simp only at e
    · exact h _ _ _ _ e
    · cases e
  · rename_i hop
    rw [hop] at e
    simp only at e ⊢
    split <;> rename_i hc <;> rw [hc] at e <;> simp only at e
    · exact h _ _ _ _ e
    · cases e
  · rename_i h1 h2
    split at e
    · rename_i hop; exact absurd hop (h1 _ _ _)
    · rename_i hop; exact absurd hop (h2 _ _ _ _)
    · exact e

theorem runOps_mono {cf cf' : CallF} (h : CFle cf cf') {ops : Array Oper} : ∀ (l : List Oper) (st st' : DSt), runOps P cf ops l st = some st' → runOps P cf' ops l st = some st'
  | [], st, st', e => e
  | o :: r, st, st', e => by
    simp only [runOps] at *
    split
    · rename_i hw
      rw [if_pos hw] at e
      split at e
      · rename_i v H1 ho
        rw [opD_mono h ho]
        exact runOps_mono h r _ _ e
      · cases e
    · rename_i hw
      rw [if_neg hw] at e
      exact runOps_mono h r _ _ e

theorem runDraw_mono {cf cf' : CallF} (h : CFle cf cf') {ops : Array Oper} {bef : Array Nat} : ∀ (l : List Oper) (i : Nat) (seen : List Seen) (was : List Was) (st st' : DSt), runDraw P cf ops bef l i seen was st = some st' → runDraw P cf' ops bef l i seen was st = some st'
  | [], i, seen, was, st, st', e => e
  | o :: r, i, seen, was, st, st', e => by
    simp only [runDraw] at *
    split
    · rename_i hw
      rw [if_pos hw] at e
      split at e
      · rename_i v H1 ho
        rw [opD_mono h ho]
        simp only
        split at e
        · rename_i hm
          rw [if_pos hm]
          split at e
          · rename_i hs
            rw [if_pos hs]
            exact runDraw_mono h r _ _ _ _ _ e
          · cases e
        · rename_i hm
          rw [if_neg hm]
          split at e
          · rename_i hr
            rw [if_pos hr]
            split at e
            · rename_i hs
              rw [if_pos hs]
              exact runDraw_mono h r _ _ _ _ _ e
            · cases e
          · rename_i hr
            rw [if_neg hr]
            exact runDraw_mono h r _ _ _ _ _ e
      · cases e
    · rename_i hw
      rw [if_neg hw] at e
      exact runDraw_mono h r _ _ _ _ _ e

theorem execD_mono {cf cf' : CallF} (h : CFle cf cf') : ∀ (k k' : Nat), k ≤ k' → ∀ (c : Code) (st : DSt) (r : DExit × DSt), execD P cf k c st = some r → execD P cf' k' c st = some r := by
  intro k
  induction k with
  | zero => intro k' _ c st r e; simp [execD] at e
  | succ k ih =>
    intro k' hk c st r e
    obtain ⟨m, rfl⟩ : ∃ m, k' = m + 1 := ⟨k' - 1, by omega⟩
    have hm : k ≤ m := by omega
    cases c <;> simp only [execD] at e ⊢ <;> try exact e
    case seq a b =>
      split at e
      · rename_i st1 h1
        rw [ih m hm _ _ _ h1]
        exact ih m hm _ _ _ e
      · rename_i hne
        rw [ih m hm _ _ _ e]
        obtain ⟨x, st2⟩ := r
        cases x with
        | normal => exact absurd e (hne st2)
        | exit id => rfl
        | ret => rfl
    case cond c x y =>
      split at e
      · rename_i t ht
        exact ih m hm _ _ _ e
      · cases e
    case block id c =>
      split at e
      · rename_i id' st1 h1
        rw [ih m hm _ _ _ h1]
        exact e
      · rename_i hne
        rw [ih m hm _ _ _ e]
        obtain ⟨x, st2⟩ := r
        cases x with
        | normal => rfl
        | exit id' => exact absurd e (hne id' st2)
        | ret => rfl
    case loop c =>
      split at e
      · rename_i st1 h1
        rw [ih m hm _ _ _ h1]
        exact ih m hm _ _ _ e
      · rename_i hne
        rw [ih m hm _ _ _ e]
        obtain ⟨x, st2⟩ := r
        cases x with
        | normal => exact absurd e (hne st2)
        | exit id => rfl
        | ret => rfl
    case region id ops dr =>
      cases dr with
      | false =>
        simp only [execD] at e ⊢
        cases hr : runOps P cf ops ops.toList st with
        | none => rw [hr] at e; cases e
        | some st1 => rw [hr] at e; rw [runOps_mono h _ _ _ hr]; exact e
      | true =>
        simp only [execD] at e ⊢
        cases hr : runDraw P cf ops (Region.before ops) ops.toList 0 [] [] st with
        | none => rw [hr] at e; cases e
        | some st1 => rw [hr] at e; rw [runDraw_mono h _ _ _ _ _ _ hr]; exact e

theorem callD_mono : ∀ (k k' : Nat), k ≤ k' → CFle (callD P X k) (callD P X k') := by
  intro k
  induction k with
  | zero => intro k' _ f a H r e; simp [callD] at e
  | succ k ih =>
    intro k' hk f a H r e
    obtain ⟨m, rfl⟩ : ∃ m, k' = m + 1 := ⟨k' - 1, by omega⟩
    simp only [callD] at e ⊢
    split
    · rename_i g hg; rw [hg] at e; exact e
    · rename_i hg
      rw [hg] at e
      simp only at e
      split
      · rename_i fn hf
        rw [hf] at e
        simp only at e
        split
        · rename_i c hc
          rw [hc] at e
          simp only at e
          split at e
          · rename_i st he
            rw [execD_mono (ih m (by omega)) _ _ (by omega) _ _ _ he]
            exact e
          · rename_i st he
            rw [execD_mono (ih m (by omega)) _ _ (by omega) _ _ _ he]
            exact e
          · cases e
        · rename_i hc; rw [hc] at e; cases e
      · rename_i hf; rw [hf] at e; cases e

end
end Go.Det
