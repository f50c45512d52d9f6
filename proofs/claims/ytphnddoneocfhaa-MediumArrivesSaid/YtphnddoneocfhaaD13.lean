/- One operation, and operations one behind the other, on the machine. -/
import Derived.Test.YtphnddoneocfhaaD12
import Derived.Orders
namespace Go.Det
set_option linter.unusedVariables false
set_option linter.unusedSimpArgs false

section
variable {P : Program} {ρ : Rho}

theorem evalO_sound {env : List DV} {a : Act} (h : EnvR ρ env a.tmps) : EvR ρ (evalO env) a.eval := by
  intro x d hx
  cases x with
  | tmp t => simp only [evalO] at hx; cases hx; exact h.get t
  | const v => simp only [evalO] at hx; exact ofValue_sound ρ hx
  | global g => simp [evalO] at hx
  | func f => simp only [evalO] at hx; cases hx; simp only [VR, Act.eval]; exact ⟨_, _, rfl, .nil, .nil⟩

theorem yield_eq {env : List DV} {tmps : Array Value} (h : EnvR ρ env tmps) (ops : Array Oper) : yielded ops tmps = dyield ops env := by
  funext j
  unfold yielded dyield
  cases hd : (ops[j]?).bind (·.dst) with
  | none => rfl
  | some t =>
    simp only [Option.bind_some]
    have hl := VRs.length h
    simp only [Array.length_toList] at hl
    cases he : env[t]? with
    | none =>
      have : tmps[t]? = none := by
        rw [Array.getElem?_eq_none_iff]
        have := List.getElem?_eq_none_iff.mp he
        omega
      rw [this]
    | some d =>
      obtain ⟨v, hv, hr⟩ := VRs.get t h he
      rw [Array.getElem?_toList] at hv
      rw [hv]
      cases d <;> (try simp only [VR] at hr)
      case bool b => subst hr; rfl
      case ptr p => cases p with
        | none => simp only [VR] at hr; subst hr; rfl
        | some p => obtain ⟨l, i, o⟩ := p; simp only [VR] at hr; obtain ⟨pl, hp, rfl⟩ := hr; rfl
      case sl p n c ex => cases p with
        | none => simp only [VR] at hr; obtain ⟨_, _, rfl⟩ := hr; rfl
        | some p => obtain ⟨l, i, z⟩ := p; simp only [VR] at hr; obtain ⟨pl, a, c', hp, hz, rfl, _⟩ := hr; rfl
      case map r => cases r with
        | none => simp only [VR] at hr; subst hr; rfl
        | some r => simp only [VR] at hr; obtain ⟨pl, hp, rfl⟩ := hr; rfl
      case func => obtain ⟨_, _, rfl, _⟩ := hr; rfl
      case iface => obtain ⟨_, rfl, _⟩ := hr; rfl
      case agg => obtain ⟨_, _, rfl, _⟩ := hr; rfl
      case tuple => obtain ⟨_, rfl, _⟩ := hr; rfl
      all_goals (subst hr; rfl)

/-- A call on the machine ends in values and worlds of which K holds. -/
def CallOk (P : Program) (f : FuncId) (args : Array Value) (w : World) (K : Value → World → Prop) : Prop :=
  ∀ (o : Oper) (a : Act) (next : Act → World → Prop) (Q : Exit → Act → World → Prop), (∀ v w', K v w' → next (a.put o.dst v) w') → o.upon P a next Q ((callFunc f args).run P w)

/-- The deterministic reading of calls is sound. -/
def CFSound (P : Program) (cf : CallF) : Prop :=
  ∀ f args H r H', cf f args H = some (r, H') → ∀ (ρ : Rho) (w : World) (vs : Array Value), Agree ρ H w → VRs ρ args vs.toList → CallOk P f vs w fun v w' => ∃ ρ', VR ρ' r v ∧ Moves ρ H w ρ' H' w'

theorem upon_call {o : Oper} {a : Act} {next : Act → World → Prop} {Q : Exit → Act → World → Prop} {w : World} {s : Sem Next} {f : FuncId} {args : Array Value} {K : Value → World → Prop} (h : CallOk P f args w K) (hs : s.run P w = (callFunc f args).run P w)
    (hk : ∀ v w', K v w' → next (a.put o.dst v) w') : o.upon P a next Q (s.run P w) := by
  rw [hs]
  exact h o a next Q hk

theorem method_run {t : TypeId} {name : String} {f : FuncId} (h : methodD P t name = some f) (v : Value) (w : World) (n : Nat) : (method (n + 1) t v name).run P w = .ok (f, v) w := by
  unfold methodD at h
  split at h
  · rename_i i e hi hu
    split at h
    · rename_i m hm
      split at h
      · rename_i g hg
        split at h
        · rename_i hp
          cases h
          have hpath : m.path.toList = [] := by simpa [Array.isEmpty_iff] using hp
          simp only [method, Sem.run_bind, r_info hi, Result.andThen_ok, hm, hpath, follow, Sem.run_pure, hg, receiverAt, r_underlying hu, Place.get]
        · cases h
      · cases h
    · cases h
  · cases h

theorem op_wp {cf : CallF} (hcf : CFSound P cf) {o : Oper} {env : List DV} {H H' : DH} {d : DV} (h : opD P cf o env H = some (d, H')) {a : Act} {w : World} (he : EnvR ρ env a.tmps) (ha : Agree ρ H w)
    {next : Act → World → Prop} {Q : Exit → Act → World → Prop} (hk : ∀ v w' ρ', VR ρ' d v → Moves ρ H w ρ' H' w' → next (a.put o.dst v) w') : o.wp P a w next Q := by
  have hev := evalO_sound he
  unfold Oper.wp
  unfold opD at h
  split at h
  · rename_i f as ts hop
    cases hc : calleeD P (evalO env) ⟨.value f, as, ts⟩ with
    | none => rw [hc] at h; cases h
    | some x =>
      obtain ⟨g, args⟩ := x
      rw [hc] at h
      simp only at h
      unfold calleeD at hc
      simp only at hc
      split at hc
      · rename_i f' vargs heq hargs
        cases heq
        split at hc
        · rename_i g' first captured hf
          cases hc
          have hfv := hev _ _ hf
          simp only [VR] at hfv
          obtain ⟨fa, ca, hfeq, h1, h2⟩ := hfv
          have hav := evs_sound hev hargs
          have hargsR : VRs ρ (first ++ vargs ++ captured) (fa ++ as.map a.eval ++ ca).toList := by
            rw [Array.toList_append, Array.toList_append, Array.toList_map]
            exact (h1.append hav).append h2
          refine upon_call (hcf _ _ _ _ _ h ρ w _ ha hargsR) ?_ (fun v w' ⟨ρ', h3, h4⟩ => hk v w' ρ' h3 h4)
          simp [execOp, hop, resolve, hfeq, Deferred.ofValue, invoke]
        · cases hc
      · rename_i heq _; cases heq
      · cases hc
  · rename_i r n as ts hop
    cases hc : calleeD P (evalO env) ⟨.invoke r n, as, ts⟩ with
    | none => rw [hc] at h; cases h
    | some x =>
      obtain ⟨g, args⟩ := x
      rw [hc] at h
      simp only at h
      unfold calleeD at hc
      simp only at hc
      split at hc
      · rename_i heq _; cases heq
      · rename_i r' n' vargs heq hargs
        cases heq
        split at hc
        · rename_i t v hr
          cases hm : methodD P t n with
          | none => rw [hm] at hc; cases hc
          | some g' =>
            rw [hm] at hc
            cases hc
            have hrv := hev _ _ hr
            simp only [VR] at hrv
            obtain ⟨y, hreq, h1⟩ := hrv
            have hav := evs_sound hev hargs
            have hargsR : VRs ρ (v :: vargs) (#[y] ++ as.map a.eval).toList := by
              rw [Array.toList_append, Array.toList_map]
              exact .cons h1 hav
            refine upon_call (hcf _ _ _ _ _ h ρ w _ ha hargsR) ?_ (fun v w' ⟨ρ', h3, h4⟩ => hk v w' ρ' h3 h4)
            have hmr := method_run hm y w (P.types.size + 99)
            have e : P.types.size + Made.depth = P.types.size + 99 + 1 := rfl
            have hx : ((#[a.eval r] ++ as.map a.eval).extract 1 (#[a.eval r] ++ as.map a.eval).size) = as.map a.eval := by
              apply Array.ext'
              simp only [Array.toList_extract, List.extract_eq_take_drop, Array.toList_append, Array.toList_map, Array.size_append, List.size_toArray, List.length_cons, List.length_nil, Array.size_map, List.cons_append, List.nil_append, List.drop_succ_cons, List.drop_zero]
              rw [List.take_of_length_le]
              simp
            simp only [execOp, hop, resolve, Sem.run_bind, Sem.run_pure, Result.andThen_ok, invoke]
            have h0 : (#[a.eval r] ++ as.map a.eval)[0]? = some (.iface t y) := by rw [hreq, ← Array.getElem?_toList, Array.toList_append]; rfl
            simp only [h0, hx, callMethod, Sem.run_bind, run_program, Result.andThen_ok, e, hmr]
        · cases hc
      · cases hc
  · split at h
    · obtain ⟨n, v, w', ρ', hr, hn, hv, hm⟩ := move_sound h hev ha
      rw [hr]
      rcases hn with rfl | ⟨rfl, rfl⟩
      · exact hk v w' ρ' hv hm
      · exact hk _ w' ρ' hv hm
    · split at h
      · cases hr : readD P o (evalO env) H with
        | none => rw [hr] at h; cases h
        | some v =>
          rw [hr] at h
          cases h
          obtain ⟨v, hrun, hv⟩ := read_sound hr hev ha
          rw [hrun]
          exact hk v w ρ hv (Moves.refl ha)
      · cases hr : pureD P o (evalO env) with
        | none => rw [hr] at h; cases h
        | some v =>
          rw [hr] at h
          cases h
          obtain ⟨v, hrun, hv⟩ := pure_sound hr hev w
          rw [hrun]
          exact hk v w ρ hv (Moves.refl ha)

theorem EnvR.mono {ρ' : Rho} {env : List DV} {tmps : Array Value} (h : EnvR ρ env tmps) (hle : ρ.le ρ') : EnvR ρ' env tmps := VRs.mono hle _ _ h

theorem VR_undef (ρ : Rho) : VR ρ undefD undef := by simp [undefD, undef, VR, VRs]

theorem put_defers (a : Act) (dst : Option Tmp) (v : Value) : (a.put dst v).defers = a.defers := by cases dst <;> rfl

theorem ops_wp {cf : CallF} (hcf : CFSound P cf) {ops : Array Oper} {Q : Exit → Act → World → Prop} {st' : DSt} : ∀ (l : List Oper) (i : Nat) (st : DSt) (a : Act) (w : World) (ρ : Rho), ops.toList.drop i = l → runOps P cf ops l st = some st' → EnvR ρ st.env a.tmps → a.defers = [] → Agree ρ st.H w →
    (∀ ρ' a' w', EnvR ρ' st'.env a'.tmps → a'.defers = [] → Moves ρ st.H w ρ' st'.H w' → Q .normal a' w') → wpOps P ops Q (List.range' i l.length) a w
  | [], i, st, a, w, ρ, _, h, he, hd, ha, hq => by
    simp only [runOps] at h
    cases h
    exact hq ρ a w he hd (Moves.refl ha)
  | o :: r, i, st, a, w, ρ, hl, h, he, hd, ha, hq => by
    simp only [List.length_cons, List.range'_succ]
    have hlt : i < ops.toList.length := by
      rcases Nat.lt_or_ge i ops.toList.length with h | h
      · exact h
      · rw [List.drop_eq_nil_of_le h] at hl; cases hl
    have hcons := List.drop_eq_getElem_cons hlt
    rw [hl] at hcons
    injection hcons with ho hr
    have hoi : ops[i]? = some o := by rw [← Array.getElem?_toList, List.getElem?_eq_getElem hlt, ho]
    simp only [wpOps, hoi]
    simp only [runOps] at h
    rw [yield_eq he]
    split at h
    · rename_i hw
      rw [if_pos hw]
      split at h
      · rename_i v H1 hop
        refine .inl (op_wp hcf hop he ha fun u w' ρ' hv hm => ?_)
        exact ops_wp hcf r (i + 1) _ _ w' ρ' hr.symm h ((he.mono hm.le).putD hv o.dst) (by rw [put_defers]; exact hd) hm.agree fun ρ'' a' w'' h1 h2 h3 => hq ρ'' a' w'' h1 h2 (hm.trans h3)
      · cases h
    · rename_i hw
      rw [if_neg hw]
      exact ops_wp hcf r (i + 1) _ _ w ρ hr.symm h (he.putD (VR_undef ρ) o.dst) (by rw [put_defers]; exact hd) ha hq

end
end Go.Det
