/- Code and calls: the deterministic reading is sound. -/
import Derived.LoopN
import Derived.Conc.MuLone
import Derived.Test.YtlmjhpnmfmnmgaaDoorCovT5
namespace Go.Det
set_option linter.unusedVariables false
set_option linter.unusedSimpArgs false
section
variable {P : Program} {ρ : Rho}
theorem replicate_false (n k : Nat) : (Array.replicate n false).getD k false = false := by
  rw [Array.getD_eq_getD_getElem?, Array.getElem?_replicate]
  split <;> rfl
theorem envM_none {ops : Array Oper} {V : Nat → DV} : ∀ (l : List Nat) (e : List DV), envM ops V (fun _ => false) l e = e
  | [], e => rfl
  | k :: l, e => by
    show envM ops V (fun _ => false) l e = e
    exact envM_none l e
/-- A region that draws its order. -/
theorem draw_wp (hmix : P.follows .mixedOrders = true) {cf : CallF} (hcf : CFSound P cf) {ops : Array Oper} (hok : drawOk P ops = true) {st st' : DSt} (h : runDraw P cf ops (Region.before ops) ops.toList 0 [] [] st = some st')
    {id : Nat} {Q : Exit → Act → World → Prop} {a : Act} {w : World} (he : EnvR ρ st.env a.tmps) (hd : a.defers = []) (ha : Agree ρ st.H w)
    (hq : ∀ ρ' a' w', EnvR ρ' st'.env a'.tmps → a'.defers = [] → Moves ρ st.H w ρ' st'.H w' → Q .normal a' w') : (Code.region id ops true).wp P Q a w := by
  obtain ⟨E, HH, V, ht, he0, hh0, hen, hhn, _, _⟩ := trace_of ops.toList 0 [] [] st rfl h
  rw [if_pos (Nat.zero_le _)] at hen hhn
  refine wp_region_any hmix ?_
  have e1 : (fun k => (Array.replicate ops.size false).getD k false) = fun _ => false := funext fun k => replicate_false _ _
  refine draw_any (ρ := ρ) hcf (drawOk_spec hok) ht (w := w) (fun ρ' a' w' h1 h2 h3 => hq ρ' a' w' (hen ▸ h1) h2 (hh0 ▸ hhn ▸ h3)) ops.size _ a ρ _ 0 (by simp) ?_
  rw [e1]
  refine ⟨fun k _ => rfl, fun k o e _ h => (by cases h), ?_, ?_, hd, Nat.zero_le _, fun k o _ _ _ => ⟨fun h => (by cases h), fun h => (by omega)⟩, ?_⟩
  · exact Nat.le_trans (List.length_filter_le _ _) (by simp)
  · rw [envM_none, he0]; exact he
  · rw [hh0]; exact Moves.drew ha
def DExit.toExit : DExit → Exit
  | .normal => .normal
  | .exit id => .exit id
  | .ret => .ret
/-- A region that draws its order comes, whatever the order, to what the text's order comes to. -/
def RegSound (P : Program) (ops : Array Oper) : Prop :=
  ∀ (cf : CallF), CFSound P cf → ∀ (st st' : DSt), runDraw P cf ops (Region.before ops) ops.toList 0 [] [] st = some st' →
    ∀ (id : Nat) (ρ : Rho) (Q : Exit → Act → World → Prop) (a : Act) (w : World), EnvR ρ st.env a.tmps → a.defers = [] → Agree ρ st.H w →
      (∀ ρ' a' w', EnvR ρ' st'.env a'.tmps → a'.defers = [] → Moves ρ st.H w ρ' st'.H w' → Q .normal a' w') → (Code.region id ops true).wp P Q a w
def CodeOk (P : Program) : Code → Prop
  | .seq a b => CodeOk P a ∧ CodeOk P b
  | .cond _ a b => CodeOk P a ∧ CodeOk P b
  | .block _ c => CodeOk P c
  | .loop c => CodeOk P c
  | .region _ ops true => RegSound P ops
  | _ => True
/-- Do all regions of a code that draw their order go by the text's order? -/
def codeOk (P : Program) : Code → Bool
  | .seq a b => codeOk P a && codeOk P b
  | .cond _ a b => codeOk P a && codeOk P b
  | .block _ c => codeOk P c
  | .loop c => codeOk P c
  | .region _ ops true => drawOk P ops
  | _ => true
theorem codeOk_spec (hmix : P.follows .mixedOrders = true) : ∀ {c : Code}, codeOk P c = true → CodeOk P c
  | .seq a b, h => by simp only [codeOk, Bool.and_eq_true] at h; exact ⟨codeOk_spec hmix h.1, codeOk_spec hmix h.2⟩
  | .cond _ a b, h => by simp only [codeOk, Bool.and_eq_true] at h; exact ⟨codeOk_spec hmix h.1, codeOk_spec hmix h.2⟩
  | .block _ c, h => by simp only [codeOk] at h; exact codeOk_spec (c := c) hmix h
  | .loop c, h => by simp only [codeOk] at h; exact codeOk_spec (c := c) hmix h
  | .region _ ops true, h => by
    simp only [codeOk] at h
    exact fun cf hcf st st' hr id ρ Q a w he hd ha hq => draw_wp hmix hcf h hr he hd ha hq
  | .region _ ops false, _ => trivial
  | .skip, _ => trivial
  | .label _, _ => trivial
  | .exit _, _ => trivial
  | .goto _, _ => trivial
  | .ret, _ => trivial
  | .rangeFunc .., _ => trivial
  | .scope .., _ => trivial
  | .refuse .., _ => trivial
theorem exec_sound (hmix : P.follows .mixedOrders = true) {cf : CallF} (hcf : CFSound P cf) : ∀ (k : Nat) (c : Code), CodeOk P c → ∀ (st : DSt) (e : DExit) (st' : DSt), execD P cf k c st = some (e, st') →
    ∀ (ρ : Rho) (a : Act) (w : World) (Q : Exit → Act → World → Prop), EnvR ρ st.env a.tmps → a.defers = [] → Agree ρ st.H w →
      (∀ ρ' a' w', EnvR ρ' st'.env a'.tmps → a'.defers = [] → Moves ρ st.H w ρ' st'.H w' → Q e.toExit a' w') → c.wp P Q a w := by
  intro k
  induction k using Nat.strongRecOn with
  | _ k ih =>
  intro c hc st e st' h ρ a w Q he hd ha hq
  cases k with
  | zero => simp [execD] at h
  | succ k =>
    cases c with
    | skip => simp only [execD] at h; cases h; exact wp_skip (hq ρ a w he hd (Moves.refl ha))
    | label l => simp only [execD] at h; cases h; exact wp_label (hq ρ a w he hd (Moves.refl ha))
    | ret => simp only [execD] at h; cases h; exact wp_ret (hq ρ a w he hd (Moves.refl ha))
    | exit id => simp only [execD] at h; cases h; exact wp_exit (hq ρ a w he hd (Moves.refl ha))
    | seq x y =>
      simp only [CodeOk] at hc
      simp only [execD] at h
      refine wp_seq ?_
      split at h
      · rename_i st1 h1
        refine ih k (by omega) x hc.1 st _ st1 h1 ρ a w _ he hd ha fun ρ1 a1 w1 he1 hd1 hm1 => ?_
        exact ih k (by omega) y hc.2 st1 e st' h ρ1 a1 w1 Q he1 hd1 hm1.agree fun ρ2 a2 w2 he2 hd2 hm2 => hq ρ2 a2 w2 he2 hd2 (hm1.trans hm2)
      · rename_i hne
        refine ih k (by omega) x hc.1 st e st' h ρ a w _ he hd ha fun ρ1 a1 w1 he1 hd1 hm1 => ?_
        cases e with
        | normal => exact absurd h (hne st')
        | exit id => exact hq ρ1 a1 w1 he1 hd1 hm1
        | ret => exact hq ρ1 a1 w1 he1 hd1 hm1
    | cond c x y =>
      simp only [CodeOk] at hc
      simp only [execD] at h
      split at h
      · rename_i t ht
        have hv := evalO_sound he _ _ ht
        simp only [VR] at hv
        refine wp_cond (t := t) hv ?_
        exact ih k (by omega) _ (by cases t <;> simp [hc]) st e st' h ρ a w Q he hd ha hq
      · cases h
    | block id c =>
      simp only [CodeOk] at hc
      simp only [execD] at h
      refine wp_block ?_
      split at h
      · rename_i id' st1 h1
        refine ih k (by omega) c hc st _ st1 h1 ρ a w _ he hd ha fun ρ1 a1 w1 he1 hd1 hm1 => ?_
        split at h
        · rename_i hid
          cases h
          have := hq ρ1 a1 w1 he1 hd1 hm1
          simp only [DExit.toExit, Exit.inBlock] at this ⊢
          rw [if_pos (by simpa using hid)]
          exact this
        · rename_i hid
          cases h
          have := hq ρ1 a1 w1 he1 hd1 hm1
          simp only [DExit.toExit, Exit.inBlock] at this ⊢
          rw [if_neg (by simpa using hid)]
          exact this
      · rename_i hne
        refine ih k (by omega) c hc st e st' h ρ a w _ he hd ha fun ρ1 a1 w1 he1 hd1 hm1 => ?_
        cases e with
        | normal => exact hq ρ1 a1 w1 he1 hd1 hm1
        | exit id' => exact absurd h (hne id' st')
        | ret => exact hq ρ1 a1 w1 he1 hd1 hm1
    | loop c =>
      have hc' := hc
      simp only [CodeOk] at hc
      refine wp_loop_rounds (k + 1) ?_
      have key : ∀ j, j ≤ k + 1 → ∀ (st : DSt) (e : DExit) (st' : DSt), execD P cf j (.loop c) st = some (e, st') → ∀ (ρ : Rho) (a : Act) (w : World), EnvR ρ st.env a.tmps → a.defers = [] → Agree ρ st.H w →
          (∀ ρ' a' w', EnvR ρ' st'.env a'.tmps → a'.defers = [] → Moves ρ st.H w ρ' st'.H w' → Q e.toExit a' w') → Code.rounds P c Q j a w := by
        intro j
        induction j with
        | zero => intro _ st e st' h; simp [execD] at h
        | succ j ihj =>
          intro hj st e st' h ρ a w he hd ha hq
          simp only [execD] at h
          rw [rounds_succ]
          split at h
          · rename_i st1 h1
            refine ih j (by omega) c hc st _ st1 h1 ρ a w _ he hd ha fun ρ1 a1 w1 he1 hd1 hm1 => ?_
            exact ihj (by omega) st1 e st' h ρ1 a1 w1 he1 hd1 hm1.agree fun ρ2 a2 w2 he2 hd2 hm2 => hq ρ2 a2 w2 he2 hd2 (hm1.trans hm2)
          · rename_i hne
            refine ih j (by omega) c hc st e st' h ρ a w _ he hd ha fun ρ1 a1 w1 he1 hd1 hm1 => ?_
            cases e with
            | normal => exact absurd h (hne st')
            | exit id => exact hq ρ1 a1 w1 he1 hd1 hm1
            | ret => exact hq ρ1 a1 w1 he1 hd1 hm1
      exact key (k + 1) (Nat.le_refl _) st e st' h ρ a w he hd ha hq
    | region id ops dr =>
      cases dr with
      | false =>
        simp only [execD] at h
        cases hr : runOps P cf ops ops.toList st with
        | none => rw [hr] at h; cases h
        | some st1 =>
          rw [hr] at h
          cases h
          refine wp_region ?_
          have := ops_wp hcf (ops := ops) (Q := Q) ops.toList 0 st a w ρ rfl hr he hd ha (fun ρ' a' w' h1 h2 h3 => hq ρ' a' w' h1 h2 h3)
          rwa [Array.length_toList, ← List.range_eq_range'] at this
      | true =>
        simp only [CodeOk] at hc
        simp only [execD] at h
        cases hr : runDraw P cf ops (Region.before ops) ops.toList 0 [] [] st with
        | none => rw [hr] at h; cases h
        | some st1 =>
          rw [hr] at h
          cases h
          exact hc cf hcf st _ hr id ρ Q a w he hd ha (fun ρ' a' w' h1 h2 h3 => hq ρ' a' w' h1 h2 h3)
    | _ => simp [execD] at h
/-! ### calls -/
theorem one_of {us : List Value} {y : Value} (h : us = [y]) : (if h : us.toArray.size = 1 then us.toArray[0] else .tuple us.toArray) = y := by subst h; rfl
theorem loadVar_sound {t : TypeId} {H : DH} {x d : DV} {v : Value} {w : World} (h : loadD P t H x = some d) (hx : VR ρ x v) (ha : Agree ρ H w) : ∃ u, (do loadVar t (← asAddr v) : Sem Value).run P w = .ok u w ∧ VR ρ d u := by
  obtain ⟨u, h1, h2⟩ := load_sound h hx ha
  refine ⟨u, ?_, h2⟩
  unfold loadD at h
  split at h
  · simp only [VR] at hx
    obtain ⟨pl, hp, rfl⟩ := hx
    exact h1
  · cases h
def resM (tmps : Array Value) : ResultVar → Sem Value
  | .tmp t => pure (tmps.getD t undef)
  | .cell a t => do loadVar t (← asAddr (tmps.getD a undef))
def resG (P : Program) (env : List DV) (H : DH) : ResultVar → Option DV
  | .tmp t => some (env.getD t undefD)
  | .cell a t => loadD P t H (env.getD a undefD)
theorem resList_sound {env : List DV} {H : DH} {tmps : Array Value} (he : EnvR ρ env tmps) {w : World} (ha : Agree ρ H w) : ∀ (l : List ResultVar), ((l.map (resG P env H)).all Option.isSome = true) →
    ∃ us : List Value, VRs ρ ((l.map (resG P env H)).map fun v => v.getD undefD) us ∧ (l.mapM (resM tmps)).run P w = Result.ok us w
  | [], _ => ⟨[], .nil, by simp [Sem.run_pure]⟩
  | x :: l, hs => by
    simp only [List.map_cons, List.all_cons, Bool.and_eq_true] at hs
    obtain ⟨us, h1, h2⟩ := resList_sound he ha l hs.2
    cases x with
    | tmp t =>
      refine ⟨tmps.getD t undef :: us, .cons (he.get t) h1, ?_⟩
      rw [List.mapM_cons, Sem.run_bind]
      simp only [resM, Sem.run_pure, Result.andThen_ok, Sem.run_bind]
      rw [h2]
      simp [Sem.run_pure]
    | cell a t =>
      cases hl : loadD P t H (env.getD a undefD) with
      | none => exact absurd hs.1 (by show ¬ (loadD P t H (env.getD a undefD)).isSome = true; rw [hl]; exact Bool.false_ne_true)
      | some d =>
        obtain ⟨u, h3, h4⟩ := loadVar_sound hl (he.get a) ha
        refine ⟨u :: us, ?_, ?_⟩
        · simp only [List.map_cons, resG, hl, Option.getD_some]
          exact .cons h4 h1
        · rw [List.mapM_cons, Sem.run_bind]
          have h3' : (resM tmps (.cell a t)).run P w = Result.ok u w := h3
          rw [h3']
          simp only [Result.andThen_ok, Sem.run_bind]
          rw [h2]
          simp [Sem.run_pure]
theorem results_sound {fn : Func} {st : DSt} {d : DV} (h : resultsD P fn st = some d) {tmps : Array Value} (he : EnvR ρ st.env tmps) {w : World} (ha : Agree ρ st.H w) : ∃ v, (results fn tmps).run P w = .ok v w ∧ VR ρ d v := by
  have key := resList_sound (P := P) he ha fn.results.toList
  have h : (match (fn.results.toList.map (resG P st.env st.H)) with | [v] => v | vs => if vs.all Option.isSome then some (.tuple (vs.map fun v => v.getD undefD)) else none) = some d := h
  have run : ∀ us : List Value, (fn.results.toList.mapM (resM tmps)).run P w = Result.ok us w → (results fn tmps).run P w = .ok (if h : us.toArray.size = 1 then us.toArray[0] else .tuple us.toArray) w := by
    intro us hu
    have e : results fn tmps = (do let vs ← fn.results.mapM (resM tmps); pure (if h : vs.size = 1 then vs[0] else .tuple vs)) := rfl
    rw [e, Sem.run_bind, Array.mapM_eq_mapM_toList, Sem.run_map, hu]
    rfl
  split at h
  · rename_i v hv
    subst h
    rw [hv] at key
    obtain ⟨us, h1, h2⟩ := key rfl
    refine ⟨_, run us h2, ?_⟩
    have hl := VRs.length h1
    obtain ⟨y, rfl⟩ := List.length_eq_one_iff.mp (by simpa using hl)
    rw [one_of rfl]
    simpa [VRs] using h1
  · rename_i hne
    split at h
    · rename_i hs
      cases h
      obtain ⟨us, h1, h2⟩ := key hs
      refine ⟨_, run us h2, ?_⟩
      have hl := VRs.length h1
      rw [dif_neg]
      · simp only [VR]
        exact ⟨_, rfl, h1⟩
      · intro h3
        rw [List.length_map] at hl
        have h4 : us.length = 1 := by simpa using h3
        obtain ⟨x, hx⟩ := List.length_eq_one_iff.mp (hl.symm.trans h4)
        exact hne x hx
    · cases h
/-- What stands in for a function's text is sound. -/
def ExtSound (P : Program) (g : List DV → DH → Option (DV × DH)) (f : FuncId) : Prop :=
  ∀ args H r H', g args H = some (r, H') → ∀ (ρ : Rho) (w : World) (vs : Array Value), Agree ρ H w → VRs ρ args vs.toList → CallOk P f vs w fun v w' => ∃ ρ', VR ρ' r v ∧ Moves ρ H w ρ' H' w'
/-- All functions that are read by their text may be; what stands in for the others is sound. -/
structure ProgOk (P : Program) (X : Ext) : Prop where
  mix : P.follows .mixedOrders = true
  body : ∀ f fn c, X f = none → P.funcs[f]? = some fn → fn.body = some c → (fn.name == "runtime.NumGoroutine") = false ∧ CodeOk P c
  ext : ∀ f g, X f = some g → ExtSound P g f
theorem entered {f : FuncId} {args : List DV} {vs : Array Value} (h : VRs ρ args vs.toList) (n : Nat) : EnvR ρ (args ++ List.replicate (n - args.length) undefD) (vs ++ Array.replicate (n - vs.size) undef) := by
  unfold EnvR
  have hl := VRs.length h
  rw [Array.toList_append, Array.toList_replicate]
  have : vs.size = args.length := by simpa using hl
  rw [this]
  refine h.append ?_
  induction n - args.length with
  | zero => exact .nil
  | succ k ih => exact .cons (VR_undef ρ) ih
/-- A call, of a function with a body. -/
theorem call_body {X : Ext} (hX : ProgOk P X) {k : Nat} (hcf : CFSound P (callD P X k)) {f : FuncId} {fn : Func} {c : Code} (hf : P.funcs[f]? = some fn) (hb : fn.body = some c) (hx : X f = none) {args : List DV} {H H' : DH} {r : DV}
    (h : callD P X (k + 1) f args H = some (r, H')) {w : World} {vs : Array Value} (ha : Agree ρ H w) (hv : VRs ρ args vs.toList) :
    Calls P f vs w fun | .returned v, w' => ∃ ρ', VR ρ' r v ∧ Moves ρ H w ρ' H' w' | _, _ => False := by
  obtain ⟨_, hc⟩ := hX.body f fn c hx hf hb
  simp only [callD, hx, hf, hb] at h
  refine calls_of_wp hf hb ?_
  split at h
  · rename_i st he
    refine exec_sound hX.mix hcf _ c hc _ _ _ he ρ _ w _ (entered (f := f) hv _) rfl ha fun ρ' a' w' h1 h2 h3 => ?_
    cases hr : resultsD P fn st with
    | none => rw [hr] at h; cases h
    | some v =>
      rw [hr] at h
      cases h
      obtain ⟨u, hu, hur⟩ := results_sound hr h1 h3.agree
      exact ⟨h2, u, hu, ρ', hur, h3⟩
  · rename_i st he
    refine exec_sound hX.mix hcf _ c hc _ _ _ he ρ _ w _ (entered (f := f) hv _) rfl ha fun ρ' a' w' h1 h2 h3 => ?_
    cases hr : resultsD P fn st with
    | none => rw [hr] at h; cases h
    | some v =>
      rw [hr] at h
      cases h
      obtain ⟨u, hu, hur⟩ := results_sound hr h1 h3.agree
      exact ⟨h2, u, hu, ρ', hur, h3⟩
  · cases h
theorem callD_sound {X : Ext} (hX : ProgOk P X) : ∀ k, CFSound P (callD P X k) := by
  intro k
  induction k with
  | zero => intro f args H r H' h; simp [callD] at h
  | succ k ih =>
    intro f args H r H' h ρ w vs ha hv
    cases hx : X f with
    | some g =>
      simp only [callD, hx] at h
      exact hX.ext f g hx args H r H' h ρ w vs ha hv
    | none =>
      cases hf : P.funcs[f]? with
      | none => simp [callD, hx, hf] at h
      | some fn =>
        cases hb : fn.body with
        | none => simp [callD, hx, hf, hb] at h
        | some c =>
          have := call_body hX ih hf hb hx h ha hv
          intro o a next Q hq
          rw [Go.MuLone.run_callFunc_enter hf (hX.body f fn c hx hf hb).1 hb]
          rw [Oper.upon_enter]
          refine this.mono fun e w' he => ?_
          cases e with
          | returned v => exact hq v w' he
          | panicked ch => exact he.elim
          | outgrown => exact he.elim
/-- A call from outside. -/
theorem calls_sound {X : Ext} (hX : ProgOk P X) {k : Nat} {f : FuncId} {fn : Func} {c : Code} (hf : P.funcs[f]? = some fn) (hb : fn.body = some c) (hx : X f = none) {args : List DV} {H H' : DH} {r : DV}
    (h : callD P X k f args H = some (r, H')) {w : World} {vs : Array Value} (ha : Agree ρ H w) (hv : VRs ρ args vs.toList) :
    Calls P f vs w fun | .returned v, w' => ∃ ρ', VR ρ' r v ∧ Moves ρ H w ρ' H' w' | _, _ => False := by
  cases k with
  | zero => simp [callD] at h
  | succ k => exact call_body hX (callD_sound hX k) hf hb hx h ha hv
end
end Go.Det
