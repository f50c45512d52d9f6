/- One operation, and operations one behind the other, on the machine. -/
import Derived.Orders
import Derived.Test.YtlmjhpnmfmnmgaaDoorCovT4
namespace Go.Det
set_option linter.unusedVariables false
set_option linter.unusedSimpArgs false
section
variable {P : Program} {ρ : Rho}
theorem evalO_sound {env : List DV} {a : Act} (h : EnvR ρ env a.tmps) : EvR ρ (evalO env) a.eval := by
  intro x d hx
  cases x with
  | tmp t => simp only [evalO] at hx; cases hx; exact h.get t
  | const v => simp only [evalO] at hx; exact ofValue_sound ρ hx
  | global g => simp [evalO] at hx
  | func f => simp only [evalO] at hx; cases hx; simp only [VR, Act.eval]; exact ⟨_, _, rfl, .nil, .nil⟩
theorem yield_eq {env : List DV} {tmps : Array Value} (h : EnvR ρ env tmps) (ops : Array Oper) : yielded ops tmps = dyield ops env := by
  funext j
  unfold yielded dyield
  cases hd : (ops[j]?).bind (·.dst) with
  | none => rfl
  | some t =>
    simp only [Option.bind_some]
    have hl := VRs.length h
    simp only [Array.length_toList] at hl
    cases he : env[t]? with
    | none =>
      have : tmps[t]? = none := by
        rw [Array.getElem?_eq_none_iff]
        have := List.getElem?_eq_none_iff.mp he
        omega
      rw [this]
    | some d =>
      obtain ⟨v, hv, hr⟩ := VRs.get t h he
      rw [Array.getElem?_toList] at hv
      rw [hv]
      cases d <;> (try simp only [VR] at hr)
      case bool b => subst hr; rfl
      case ptr p => cases p with
        | none => simp only [VR] at hr; subst hr; rfl
        | some p => obtain ⟨l, i, o⟩ := p; simp only [VR] at hr; obtain ⟨pl, hp, rfl⟩ := hr; rfl
      case sl p n c ex => cases p with
        | none => simp only [VR] at hr; obtain ⟨_, _, rfl⟩ := hr; rfl
        | some p => obtain ⟨l, i, z⟩ := p; simp only [VR] at hr; obtain ⟨pl, a, c', hp, hz, rfl, _⟩ := hr; rfl
      case map r => cases r with
        | none => simp only [VR] at hr; subst hr; rfl
        | some r => simp only [VR] at hr; obtain ⟨pl, hp, rfl⟩ := hr; rfl
      case func => obtain ⟨_, _, rfl, _⟩ := hr; rfl
      case iface => obtain ⟨_, rfl, _⟩ := hr; rfl
      case agg => obtain ⟨_, _, rfl, _⟩ := hr; rfl
      case tuple => obtain ⟨_, rfl, _⟩ := hr; rfl
      all_goals (subst hr; rfl)
/-- A call on the machine ends in values and worlds of which K holds. -/
def CallOk (P : Program) (f : FuncId) (args : Array Value) (w : World) (K : Value → World → Prop) : Prop :=
  ∀ (o : Oper) (a : Act) (next : Act → World → Prop) (Q : Exit → Act → World → Prop), (∀ v w', K v w' → next (a.put o.dst v) w') → o.upon P a next Q ((callFunc f args).run P w)
/-- The deterministic reading of calls is sound. -/
def CFSound (P : Program) (cf : CallF) : Prop :=
  ∀ f args H r H', cf f args H = some (r, H') → ∀ (ρ : Rho) (w : World) (vs : Array Value), Agree ρ H w → VRs ρ args vs.toList → CallOk P f vs w fun v w' => ∃ ρ', VR ρ' r v ∧ Moves ρ H w ρ' H' w'
theorem upon_call {o : Oper} {a : Act} {next : Act → World → Prop} {Q : Exit → Act → World → Prop} {w : World} {s : Sem Next} {f : FuncId} {args : Array Value} {K : Value → World → Prop} (h : CallOk P f args w K) (hs : s.run P w = (callFunc f args).run P w)
    (hk : ∀ v w', K v w' → next (a.put o.dst v) w') : o.upon P a next Q (s.run P w) := by
  rw [hs]
  exact h o a next Q hk
theorem method_run {t : TypeId} {name : String} {f : FuncId} (h : methodD P t name = some f) (v : Value) (w : World) (n : Nat) : (method (n + 1) t v name).run P w = .ok (f, v) w := by
  unfold methodD at h
  split at h
  · rename_i i e hi hu
    split at h
    · rename_i m hm
      split at h
      · rename_i g hg
        split at h
        · rename_i hp
          cases h
          have hpath : m.path.toList = [] := by simpa [Array.isEmpty_iff] using hp
          simp only [method, Sem.run_bind, r_info hi, Result.andThen_ok, hm, hpath, follow, Sem.run_pure, hg, receiverAt, r_underlying hu, Place.get]
        · cases h
      · cases h
    · cases h
  · cases h
theorem op_wp {cf : CallF} (hcf : CFSound P cf) {o : Oper} {env : List DV} {H H' : DH} {d : DV} (h : opD P cf o env H = some (d, H')) {a : Act} {w : World} (he : EnvR ρ env a.tmps) (ha : Agree ρ H w)
    {next : Act → World → Prop} {Q : Exit → Act → World → Prop} (hk : ∀ v w' ρ', VR ρ' d v → Moves ρ H w ρ' H' w' → next (a.put o.dst v) w') : o.wp P a w next Q := by
  have hev := evalO_sound he
  unfold Oper.wp
  unfold opD at h
  split at h
  · rename_i f as ts hop
    cases hc : calleeD P (evalO env) ⟨.value f, as, ts⟩ with
    | none => rw [hc] at h; cases h
    | some x =>
      obtain ⟨g, args⟩ := x
      rw [hc] at h
      simp only at h
      unfold calleeD at hc
      simp only at hc
      split at hc
      · rename_i f' vargs heq hargs
        cases heq
        split at hc
        · rename_i g' first captured hf
          cases hc
          have hfv := hev _ _ hf
          simp only [VR] at hfv
          obtain ⟨fa, ca, hfeq, h1, h2⟩ := hfv
          have hav := evs_sound hev hargs
          have hargsR : VRs ρ (first ++ vargs ++ captured) (fa ++ as.map a.eval ++ ca).toList := by
            rw [Array.toList_append, Array.toList_append, Array.toList_map]
            exact (h1.append hav).append h2
          refine upon_call (hcf _ _ _ _ _ h ρ w _ ha hargsR) ?_ (fun v w' ⟨ρ', h3, h4⟩ => hk v w' ρ' h3 h4)
          simp [execOp, hop, resolve, hfeq, Deferred.ofValue, invoke]
        · cases hc
      · rename_i heq _; cases heq
      · cases hc
  · rename_i r n as ts hop
    cases hc : calleeD P (evalO env) ⟨.invoke r n, as, ts⟩ with
    | none => rw [hc] at h; cases h
    | some x =>
      obtain ⟨g, args⟩ := x
      rw [hc] at h
      simp only at h
      unfold calleeD at hc
      simp only at hc
      split at hc
      · rename_i heq _; cases heq
      · rename_i r' n' vargs heq hargs
        cases heq
        split at hc
        · rename_i t v hr
          cases hm : methodD P t n with
          | none => rw [hm] at hc; cases hc
          | some g' =>
            rw [hm] at hc
            cases hc
            have hrv := hev _ _ hr
            simp only [VR] at hrv
            obtain ⟨y, hreq, h1⟩ := hrv
            have hav := evs_sound hev hargs
            have hargsR : VRs ρ (v :: vargs) (#[y] ++ as.map a.eval).toList := by
              rw [Array.toList_append, Array.toList_map]
              exact .cons h1 hav
            refine upon_call (hcf _ _ _ _ _ h ρ w _ ha hargsR) ?_ (fun v w' ⟨ρ', h3, h4⟩ => hk v w' ρ' h3 h4)
            have hmr := method_run hm y w (P.types.size + 99)
            have e : P.types.size + Made.depth = P.types.size + 99 + 1 := rfl
            have hx : ((#[a.eval r] ++ as.map a.eval).extract 1 (#[a.eval r] ++ as.map a.eval).size) = as.map a.eval := by
              apply Array.ext'
              simp only [Array.toList_extract, List.extract_eq_take_drop, Array.toList_append, Array.toList_map, Array.size_append, List.size_toArray, List.length_cons, List.length_nil, Array.size_map, List.cons_append, List.nil_append, List.drop_succ_cons, List.drop_zero]
              rw [List.take_of_length_le]
              simp
            simp only [execOp, hop, resolve, Sem.run_bind, Sem.run_pure, Result.andThen_ok, invoke]
            have h0 : (#[a.eval r] ++ as.map a.eval)[0]? = some (.iface t y) := by rw [hreq, ← Array.getElem?_toList, Array.toList_append]; rfl
            simp only [h0, hx, callMethod, Sem.run_bind, run_program, Result.andThen_ok, e, hmr]
        · cases hc
      · cases hc
  · split at h
    · obtain ⟨n, v, w', ρ', hr, hn, hv, hm⟩ := move_sound h hev ha
      rw [hr]
      rcases hn with rfl | ⟨rfl, rfl⟩
      · exact hk v w' ρ' hv hm
      · exact hk _ w' ρ' hv hm
    · split at h
      · cases hr : readD P o (evalO env) H with
        | none => rw [hr] at h; cases h
        | some v =>
          rw [hr] at h
          cases h
          obtain ⟨v, hrun, hv⟩ := read_sound hr hev ha
          rw [hrun]
          exact hk v w ρ hv (Moves.refl ha)
      · cases hr : pureD P o (evalO env) with
        | none => rw [hr] at h; cases h
        | some v =>
          rw [hr] at h
          cases h
          obtain ⟨v, hrun, hv⟩ := pure_sound hr hev w
          rw [hrun]
          exact hk v w ρ hv (Moves.refl ha)
theorem EnvR.mono {ρ' : Rho} {env : List DV} {tmps : Array Value} (h : EnvR ρ env tmps) (hle : ρ.le ρ') : EnvR ρ' env tmps := VRs.mono hle _ _ h
theorem VR_undef (ρ : Rho) : VR ρ undefD undef := by simp [undefD, undef, VR, VRs]
theorem put_defers (a : Act) (dst : Option Tmp) (v : Value) : (a.put dst v).defers = a.defers := by cases dst <;> rfl
theorem ops_wp {cf : CallF} (hcf : CFSound P cf) {ops : Array Oper} {Q : Exit → Act → World → Prop} {st' : DSt} : ∀ (l : List Oper) (i : Nat) (st : DSt) (a : Act) (w : World) (ρ : Rho), ops.toList.drop i = l → runOps P cf ops l st = some st' → EnvR ρ st.env a.tmps → a.defers = [] → Agree ρ st.H w →
    (∀ ρ' a' w', EnvR ρ' st'.env a'.tmps → a'.defers = [] → Moves ρ st.H w ρ' st'.H w' → Q .normal a' w') → wpOps P ops Q (List.range' i l.length) a w
  | [], i, st, a, w, ρ, _, h, he, hd, ha, hq => by
    simp only [runOps] at h
    cases h
    exact hq ρ a w he hd (Moves.refl ha)
  | o :: r, i, st, a, w, ρ, hl, h, he, hd, ha, hq => by
    simp only [List.length_cons, List.range'_succ]
    have hlt : i < ops.toList.length := by
      rcases Nat.lt_or_ge i ops.toList.length with h | h
      · exact h
      · rw [List.drop_eq_nil_of_le h] at hl; cases hl
    have hcons := List.drop_eq_getElem_cons hlt
    rw [hl] at hcons
    injection hcons with ho hr
    have hoi : ops[i]? = some o := by rw [← Array.getElem?_toList, List.getElem?_eq_getElem hlt, ho]
    simp only [wpOps, hoi]
    simp only [runOps] at h
    rw [yield_eq he]
    split at h
    · rename_i hw
      rw [if_pos hw]
      split at h
      · rename_i v H1 hop
        refine .inl (op_wp hcf hop he ha fun u w' ρ' hv hm => ?_)
        exact ops_wp hcf r (i + 1) _ _ w' ρ' hr.symm h ((he.mono hm.le).putD hv o.dst) (by rw [put_defers]; exact hd) hm.agree fun ρ'' a' w'' h1 h2 h3 => hq ρ'' a' w'' h1 h2 (hm.trans h3)
      · cases h
    · rename_i hw
      rw [if_neg hw]
      exact ops_wp hcf r (i + 1) _ _ w ρ hr.symm h (he.putD (VR_undef ρ) o.dst) (by rw [put_defers]; exact hd) ha hq
end
end Go.Det

/- A region that draws its order: whatever the order, it comes to what the text's order comes to. First: what the reading of a region in the text's order leaves. -/
namespace Go.Det
set_option linter.unusedVariables false
set_option linter.unusedSimpArgs false
mutual
theorem DV.beq_eq : ∀ (a b : DV), DV.beq a b = true → a = b
  | .bool a, b, h => by cases b <;> simp_all [DV.beq]
  | .int _ _, b, h => by cases b <;> simp_all [DV.beq]
  | .str _, b, h => by cases b <;> simp_all [DV.beq]
  | .ptr _, b, h => by cases b <;> simp_all [DV.beq]
  | .sl _ _ _ _, b, h => by cases b <;> simp_all [DV.beq]
  | .map _, b, h => by cases b <;> simp_all [DV.beq]
  | .nilFunc, b, h => by cases b <;> simp_all [DV.beq]
  | .nilIface, b, h => by cases b <;> simp_all [DV.beq]
  | .iface t v, b, h => by
    cases b <;> simp only [DV.beq, Bool.and_eq_true, beq_iff_eq, Bool.false_eq_true] at h
    rw [h.1, DV.beq_eq _ _ h.2]
  | .agg a, b, h => by
    cases b <;> simp only [DV.beq, Bool.false_eq_true] at h
    rw [DV.beqs_eq _ _ h]
  | .tuple a, b, h => by
    cases b <;> simp only [DV.beq, Bool.false_eq_true] at h
    rw [DV.beqs_eq _ _ h]
  | .func f a c, b, h => by
    cases b <;> simp only [DV.beq, Bool.and_eq_true, decide_eq_true_eq, Bool.false_eq_true] at h
    rw [h.1.1, DV.beqs_eq _ _ h.1.2, DV.beqs_eq _ _ h.2]
theorem DV.beqs_eq : ∀ (a b : List DV), DV.beqs a b = true → a = b
  | [], b, h => by cases b <;> simp_all [DV.beqs]
  | x :: a, b, h => by
    cases b with
    | nil => simp [DV.beqs] at h
    | cons y b =>
      simp only [DV.beqs, Bool.and_eq_true] at h
      rw [DV.beq_eq _ _ h.1, DV.beqs_eq _ _ h.2]
end
section
variable {P : Program} {cf : CallF} {ops : Array Oper} {bef : Array Nat}
/-- Is operation i performed, where the text's order comes to it? -/
def Trace.on (ops : Array Oper) (E : Nat → List DV) (i : Nat) (o : Oper) : Prop := Region.wanted o (dyield ops (E i)) = true
/-- What a region read in the text's order leaves: slots, heaps and values, operation by operation, from number i on. -/
structure Trace (P : Program) (cf : CallF) (ops : Array Oper) (bef : Array Nat) (i : Nat) (E : Nat → List DV) (HH : Nat → DH) (V : Nat → DV) : Prop where
  op : ∀ j o, i ≤ j → ops[j]? = some o → Trace.on ops E j o → opD P cf o (E j) (HH j) = some (V j, HH (j + 1))
  off : ∀ j o, i ≤ j → ops[j]? = some o → ¬ Trace.on ops E j o → V j = undefD ∧ HH (j + 1) = HH j
  env : ∀ j o, i ≤ j → ops[j]? = some o → E (j + 1) = putD (E j) o.dst (V j)
  later : ∀ j o k q, i ≤ j → j < k → ops[j]? = some o → ops[k]? = some q → Trace.on ops E j o → Trace.on ops E k q → mover P o.op = false → reader P o.op = true → mover P q.op = true → (bef.getD k 0).testBit j = false → readD P o (evalO (E j)) (HH (k + 1)) = some (V j)
  sooner : ∀ j o k q, i ≤ k → k < j → ops[j]? = some o → ops[k]? = some q → Trace.on ops E j o → Trace.on ops E k q → mover P o.op = false → reader P o.op = true → mover P q.op = true → (bef.getD j 0).testBit k = false → readD P o (evalO (E j)) (HH k) = some (V j)
theorem Seen.still_eq {s : Seen} {H : DH} (h : s.still P H = true) : readD P s.o (evalO s.env) H = some s.v := by
  unfold Seen.still at h
  split at h
  · rename_i v hv
    rw [DV.beq_eq _ _ h] at hv
    exact hv
  · cases h
theorem trace_of {st' : DSt} : ∀ (l : List Oper) (i : Nat) (seen : List Seen) (was : List Was) (st : DSt), ops.toList.drop i = l → runDraw P cf ops bef l i seen was st = some st' →
    ∃ E HH V, Trace P cf ops bef i E HH V ∧ E i = st.env ∧ HH i = st.H ∧ E ops.size = (if i ≤ ops.size then st'.env else E ops.size) ∧ HH ops.size = (if i ≤ ops.size then st'.H else HH ops.size) ∧
      (∀ s ∈ seen, ∀ k q, i ≤ k → ops[k]? = some q → Trace.on ops E k q → mover P q.op = true → (bef.getD k 0).testBit s.i = false → readD P s.o (evalO s.env) (HH (k + 1)) = some s.v) ∧
      (∀ w ∈ was, ∀ j o, i ≤ j → ops[j]? = some o → Trace.on ops E j o → mover P o.op = false → reader P o.op = true → (bef.getD j 0).testBit w.i = false → readD P o (evalO (E j)) w.H = some (V j))
  | [], i, seen, was, st, hl, h => by
    have hge : ops.size ≤ i := by
      have := List.drop_eq_nil_iff.mp hl
      simpa using this
    have hno : ∀ j, i ≤ j → ops[j]? = none := fun j hj => Array.getElem?_eq_none_iff.mpr (by omega)
    simp only [runDraw] at h
    obtain rfl : st' = st := by simpa using h.symm
    refine ⟨fun _ => st'.env, fun _ => st'.H, fun _ => undefD, ⟨?_, ?_, ?_, ?_, ?_⟩, rfl, rfl, by split <;> rfl, by split <;> rfl, ?_, ?_⟩
    · intro j o hj ho; rw [hno j hj] at ho; cases ho
    · intro j o hj ho; rw [hno j hj] at ho; cases ho
    · intro j o hj ho; rw [hno j hj] at ho; cases ho
    · intro j o k q hj hk ho; rw [hno j hj] at ho; cases ho
    · intro j o k q hk hj ho hq; rw [hno k hk] at hq; cases hq
    · intro s hs k q hk hq; rw [hno k hk] at hq; cases hq
    · intro w hw j o hj ho; rw [hno j hj] at ho; cases ho
  | o :: r, i, seen, was, st, hl, h => by
    have hlt : i < ops.toList.length := by
      rcases Nat.lt_or_ge i ops.toList.length with h | h
      · exact h
      · rw [List.drop_eq_nil_of_le h] at hl; cases hl
    have hcons := List.drop_eq_getElem_cons hlt
    rw [hl] at hcons
    injection hcons with ho hr
    have hoi : ops[i]? = some o := by rw [← Array.getElem?_toList, List.getElem?_eq_getElem hlt, ho]
    have hsz : i < ops.size := by simpa using hlt
    -- one step, with what it added to what was seen and to the heaps that were
    have step : ∀ (v : DV) (H1 : DH) (seen' : List Seen) (was' : List Was), runDraw P cf ops bef r (i + 1) seen' was' ⟨putD st.env o.dst v, H1⟩ = some st' →
        (∀ s ∈ seen, s ∈ seen') → (∀ w ∈ was, w ∈ was') →
        (Region.wanted o (dyield ops st.env) = true → opD P cf o st.env st.H = some (v, H1)) → (¬ Region.wanted o (dyield ops st.env) = true → v = undefD ∧ H1 = st.H) →
        (Region.wanted o (dyield ops st.env) = true → mover P o.op = true → (∀ s ∈ seen, (bef.getD i 0).testBit s.i = false → readD P s.o (evalO s.env) H1 = some s.v) ∧ ⟨i, st.H⟩ ∈ was') →
        (Region.wanted o (dyield ops st.env) = true → mover P o.op = false → reader P o.op = true → (∀ w ∈ was, (bef.getD i 0).testBit w.i = false → readD P o (evalO st.env) w.H = some v) ∧ ⟨i, o, st.env, v⟩ ∈ seen') →
        ∃ E HH V, Trace P cf ops bef i E HH V ∧ E i = st.env ∧ HH i = st.H ∧ E ops.size = (if i ≤ ops.size then st'.env else E ops.size) ∧ HH ops.size = (if i ≤ ops.size then st'.H else HH ops.size) ∧
          (∀ s ∈ seen, ∀ k q, i ≤ k → ops[k]? = some q → Trace.on ops E k q → mover P q.op = true → (bef.getD k 0).testBit s.i = false → readD P s.o (evalO s.env) (HH (k + 1)) = some s.v) ∧
          (∀ w ∈ was, ∀ j o, i ≤ j → ops[j]? = some o → Trace.on ops E j o → mover P o.op = false → reader P o.op = true → (bef.getD j 0).testBit w.i = false → readD P o (evalO (E j)) w.H = some (V j)) := by
      intro v H1 seen' was' hrun hs' hw' hon hoff hmov hread
      obtain ⟨E, HH, V, ht, he, hh, hen, hhn, hseen, hwas⟩ := trace_of r (i + 1) seen' was' _ hr.symm hrun
      simp only at he hh
      let E' : Nat → List DV := fun k => if k = i then st.env else E k
      let H' : Nat → DH := fun k => if k = i then st.H else HH k
      let V' : Nat → DV := fun k => if k = i then v else V k
      have E'i : E' i = st.env := by simp [E']
      have H'i : H' i = st.H := by simp [H']
      have V'i : V' i = v := by simp [V']
      have E'n : ∀ k, i < k → E' k = E k := fun k hk => by simp only [E']; rw [if_neg (by omega)]
      have H'n : ∀ k, i < k → H' k = HH k := fun k hk => by simp only [H']; rw [if_neg (by omega)]
      have V'n : ∀ k, i < k → V' k = V k := fun k hk => by simp only [V']; rw [if_neg (by omega)]
      have oni : ∀ q, Trace.on ops E' i q ↔ Region.wanted q (dyield ops st.env) = true := fun q => by unfold Trace.on; rw [E'i]
      have onn : ∀ k q, i < k → (Trace.on ops E' k q ↔ Trace.on ops E k q) := fun k q hk => by unfold Trace.on; rw [E'n k hk]
      refine ⟨E', H', V', ⟨?_, ?_, ?_, ?_, ?_⟩, E'i, H'i, ?_, ?_, ?_, ?_⟩
      · intro j q hj hq hw
        by_cases e : j = i
        · subst e
          rw [hoi] at hq; cases hq
          rw [E'i, H'i, V'i, H'n _ (by omega), hh]
          exact hon ((oni _).mp hw)
        · rw [E'n j (by omega), H'n j (by omega), V'n j (by omega), H'n _ (by omega)]
          exact ht.op j q (by omega) hq ((onn j q (by omega)).mp hw)
      · intro j q hj hq hw
        by_cases e : j = i
        · subst e
          rw [hoi] at hq; cases hq
          rw [V'i, H'i, H'n _ (by omega), hh]
          exact hoff (fun hc => hw ((oni _).mpr hc))
        · rw [V'n j (by omega), H'n j (by omega), H'n _ (by omega)]
          exact ht.off j q (by omega) hq (fun hc => hw ((onn j q (by omega)).mpr hc))
      · intro j q hj hq
        by_cases e : j = i
        · subst e
          rw [hoi] at hq; cases hq
          rw [E'i, V'i, E'n _ (by omega), he]
        · rw [E'n j (by omega), V'n j (by omega), E'n _ (by omega)]
          exact ht.env j q (by omega) hq
      · intro j q k p hj hk hq hp hwq hwp hm hrd hmp hbit
        by_cases e : j = i
        · subst e
          rw [hoi] at hq; cases hq
          rw [E'i, V'i, H'n _ (by omega)]
          have := (hread ((oni _).mp hwq) hm hrd).2
          exact hseen _ this k p (by omega) hp ((onn k p (by omega)).mp hwp) hmp hbit
        · rw [E'n j (by omega), V'n j (by omega), H'n _ (by omega)]
          exact ht.later j q k p (by omega) hk hq hp ((onn j q (by omega)).mp hwq) ((onn k p (by omega)).mp hwp) hm hrd hmp hbit
      · intro j q k p hk hj hq hp hwq hwp hm hrd hmp hbit
        by_cases e : k = i
        · subst e
          rw [hoi] at hp; cases hp
          rw [E'n j (by omega), V'n j (by omega), H'i]
          have := (hmov ((oni _).mp hwp) hmp).2
          exact hwas _ this j q (by omega) hq ((onn j q (by omega)).mp hwq) hm hrd hbit
        · rw [E'n j (by omega), V'n j (by omega), H'n k (by omega)]
          exact ht.sooner j q k p (by omega) hj hq hp ((onn j q (by omega)).mp hwq) ((onn k p (by omega)).mp hwp) hm hrd hmp hbit
      · rw [if_pos (by omega), E'n _ hsz, hen, if_pos (by omega)]
      · rw [if_pos (by omega), H'n _ hsz, hhn, if_pos (by omega)]
      · intro s hs k q hk hq hw hm hbit
        by_cases e : k = i
        · subst e
          rw [hoi] at hq; cases hq
          rw [H'n _ (by omega), hh]
          exact (hmov ((oni _).mp hw) hm).1 s hs hbit
        · rw [H'n _ (by omega)]
          exact hseen s (hs' s hs) k q (by omega) hq ((onn k q (by omega)).mp hw) hm hbit
      · intro w hw j q hj hq hwq hm hrd hbit
        by_cases e : j = i
        · subst e
          rw [hoi] at hq; cases hq
          rw [E'i, V'i]
          exact (hread ((oni _).mp hwq) hm hrd).1 w hw hbit
        · rw [E'n j (by omega), V'n j (by omega)]
          exact hwas w (hw' w hw) j q (by omega) hq ((onn j q (by omega)).mp hwq) hm hrd hbit
    simp only [runDraw] at h
    split at h
    · rename_i hw
      split at h
      · rename_i v H1 hop
        split at h
        · rename_i hm
          split at h
          · rename_i hst
            refine step v H1 _ _ h (fun s hs => hs) (fun w hw => List.mem_cons_of_mem _ hw) (fun _ => hop) (fun hc => absurd hw hc) (fun _ _ => ⟨fun s hs hb => ?_, List.mem_cons_self⟩) (fun _ hm' => by rw [hm] at hm'; cases hm')
            unfold stillAll at hst
            rw [List.all_eq_true] at hst
            have := hst s hs
            rw [hb, Bool.false_or] at this
            exact Seen.still_eq this
          · cases h
        · rename_i hm
          split at h
          · rename_i hrd
            split at h
            · rename_i hst
              refine step v H1 _ _ h (fun s hs => List.mem_cons_of_mem _ hs) (fun w hw => hw) (fun _ => hop) (fun hc => absurd hw hc) (fun _ hm' => absurd hm' hm) (fun _ _ _ => ⟨fun w hw' hb => ?_, List.mem_cons_self⟩)
              unfold stillWas at hst
              rw [List.all_eq_true] at hst
              have := hst w hw'
              rw [hb, Bool.false_or] at this
              exact Seen.still_eq this
            · cases h
          · rename_i hrd
            exact step v H1 _ _ h (fun s hs => hs) (fun w hw => hw) (fun _ => hop) (fun hc => absurd hw hc) (fun _ hm' => absurd hm' hm) (fun _ _ hrd' => absurd hrd' hrd)
      · cases h
    · rename_i hw
      exact step undefD st.H _ _ h (fun s hs => hs) (fun w hw => hw) (fun hc => absurd hc hw) (fun _ => ⟨rfl, rfl⟩) (fun hc => absurd hc hw) (fun hc => absurd hc hw)
theorem opD_stays {o : Oper} {env : List DV} {H H' : DH} {v : DV} (h : opD P cf o env H = some (v, H')) (hm : mover P o.op = false) : H' = H ∧ (reader P o.op = true → readD P o (evalO env) H = some v) ∧ (reader P o.op = false → pureD P o (evalO env) = some v) := by
  unfold opD at h
  split at h
  · rename_i hop; rw [hop] at hm; simp [mover] at hm
  · rename_i hop; rw [hop] at hm; simp [mover] at hm
  · rw [if_neg (by rw [hm]; simp)] at h
    split at h
    · rename_i hr
      cases hrd : readD P o (evalO env) H with
      | none => rw [hrd] at h; cases h
      | some x => rw [hrd] at h; cases h; exact ⟨rfl, fun _ => rfl, fun hc => by rw [hr] at hc; cases hc⟩
    · rename_i hr
      cases hrd : pureD P o (evalO env) with
      | none => rw [hrd] at h; cases h
      | some x => rw [hrd] at h; cases h; exact ⟨rfl, fun hc => absurd hc hr, fun _ => rfl⟩
end
end Go.Det

/- A region that draws its order: whatever the order, it comes to what the text's order comes to. -/
namespace Go.Det
set_option linter.unusedVariables false
set_option linter.unusedSimpArgs false
/-- What an operation reads of the slots. -/
theorem evs_congr {ev ev' : Ev} : ∀ {xs : List Operand}, (∀ x ∈ xs, ev x = ev' x) → evs ev xs = evs ev' xs
  | [], _ => rfl
  | x :: r, h => by simp only [evs]; rw [h x (by simp), evs_congr fun y hy => h y (by simp [hy])]
theorem evParts_congr {ev ev' : Ev} : ∀ {xs : List (Nat × Operand)}, (∀ x ∈ xs.map (·.2), ev x = ev' x) → evParts ev xs = evParts ev' xs
  | [], _ => rfl
  | (i, x) :: r, h => by simp only [evParts]; rw [h x (by simp), evParts_congr fun y hy => h y (by simp at hy ⊢; exact .inr hy)]
theorem evOpt_congr {ev ev' : Ev} {x : Option Operand} (h : ∀ y ∈ x.toList, ev y = ev' y) : evOpt ev x = evOpt ev' x := by
  cases x with
  | none => rfl
  | some x => simp only [evOpt]; rw [h x (by simp)]
theorem args_congr {P : Program} {ev ev' : Ev} {c : Call} (h : ∀ x ∈ c.operands, ev x = ev' x) : evs ev c.args.toList = evs ev' c.args.toList :=
  evs_congr fun x hx => h x (by simp [Call.operands]; exact .inr (by simpa using hx))
theorem calleeD_congr {P : Program} {ev ev' : Ev} {c : Call} (h : ∀ x ∈ c.operands, ev x = ev' x) : calleeD P ev c = calleeD P ev' c := by
  unfold calleeD
  rw [args_congr (P := P) h]
  cases hc : c.callee with
  | value f =>
    have := h f (by simp [Call.operands, hc])
    cases evs ev' c.args.toList with
    | none => rfl
    | some as => simp only [this]
  | invoke r m =>
    have := h r (by simp [Call.operands, hc])
    cases evs ev' c.args.toList with
    | none => rfl
    | some as => simp only [this]
  | builtin b => rfl
set_option maxHeartbeats 1000000 in
theorem pureD_congr {P : Program} {ev ev' : Ev} {o : Oper} (h : ∀ x ∈ o.op.operands, ev x = ev' x) : pureD P o ev = pureD P o ev' := by
  obtain ⟨dst, op, type, pos, after, guard⟩ := o
  cases op <;> simp only [Op.operands] at h <;> simp only [pureD]
  case move x => exact h x (by simp)
  case assign x => exact h x (by simp)
  case pick c a b => rw [h c (by simp), h a (by simp), h b (by simp)]
  case build t ps => rw [evParts_congr (fun x hx => h x (by simpa using hx))]
  case nilCheck x => rw [h x (by simp)]
  case binOp op t x y u => rw [h x (by simp), h y (by simp)]
  case unOp op t x => rw [h x (by simp)]
  case convert s d x => rw [h x (by simp)]
  case makeInterface t x => rw [h x (by simp)]
  case makeFunc fn a c => rw [evs_congr (xs := a.toList) (fun x hx => h x (by simp; exact .inl (by simpa using hx))), evs_congr (xs := c.toList) (fun x hx => h x (by simp; exact .inr (by simpa using hx)))]
  case slice t x lo hi mx => rw [h x (by simp), evOpt_congr (x := lo) (fun y hy => h y (by simp at hy ⊢; simp [hy])), evOpt_congr (x := hi) (fun y hy => h y (by simp at hy ⊢; simp [hy])), evOpt_congr (x := mx) (fun y hy => h y (by simp at hy ⊢; simp [hy]))]
  case fieldAddr s x f => rw [h x (by simp)]
  case field s x f => rw [h x (by simp)]
  case indexAddr t x i => rw [h x (by simp), h i (by simp)]
  case index t x i => rw [h x (by simp), h i (by simp)]
  case typeAssert x a b c => rw [h x (by simp)]
  case extract t i => rw [h t (by simp)]
  case call c =>
    obtain ⟨callee, args, ts⟩ := c
    have ha := args_congr (P := P) h
    have h1 : ∀ x ∈ args.toList, ev x = ev' x := fun x hx => h x (by simp [Call.operands]; exact .inr (by simpa using hx))
    obtain ⟨args⟩ := args
    obtain ⟨ts⟩ := ts
    cases callee with
    | value f => rfl
    | invoke r n => rfl
    | builtin b =>
      cases b <;> try rfl
      · simp only at ha h1 ⊢
        match args, ts with
        | [], _ => rfl
        | [x], [] => rfl
        | [x], [t] => simp only; rw [h1 x (by simp)]
        | [x], _ :: _ :: _ => rfl
        | _ :: _ :: _, _ => rfl
      · simp only at ha ⊢; rw [ha]
      · simp only at ha ⊢; rw [ha]
  all_goals rfl
set_option maxHeartbeats 1000000 in
theorem readD_congr {P : Program} {ev ev' : Ev} {o : Oper} {H : DH} (h : ∀ x ∈ o.op.operands, ev x = ev' x) : readD P o ev H = readD P o ev' H := by
  obtain ⟨dst, op, type, pos, after, guard⟩ := o
  cases op <;> simp only [Op.operands] at h <;> simp only [readD]
  case load t x => rw [h x (by simp)]
  case lookup t x k ok => rw [h x (by simp), h k (by simp)]
  case convert s d x => rw [h x (by simp)]
  case call c =>
    obtain ⟨callee, args, ts⟩ := c
    have h1 : ∀ x ∈ args.toList, ev x = ev' x := fun x hx => h x (by simp [Call.operands]; exact .inr (by simpa using hx))
    obtain ⟨args⟩ := args
    obtain ⟨ts⟩ := ts
    cases callee with
    | value f => rfl
    | invoke r n => rfl
    | builtin b =>
      cases b <;> try rfl
      · simp only at h1 ⊢
        match args, ts with
        | [], _ => rfl
        | [x], [] => rfl
        | [x], [t] => simp only; rw [h1 x (by simp)]
        | [x], _ :: _ :: _ => rfl
        | _ :: _ :: _, _ => rfl
  all_goals rfl
set_option maxHeartbeats 1000000 in
theorem moveD_congr {P : Program} {ev ev' : Ev} {o : Oper} {H : DH} (h : ∀ x ∈ o.op.operands, ev x = ev' x) : moveD P o ev H = moveD P o ev' H := by
  obtain ⟨dst, op, type, pos, after, guard⟩ := o
  cases op <;> simp only [Op.operands] at h <;> simp only [moveD]
  case box t x => rw [h x (by simp)]
  case buildSlice t n ps => rw [evParts_congr (fun x hx => h x (by simpa using hx))]
  case store t a x => rw [h a (by simp), h x (by simp)]
  case makeSlice t a x => rw [h a (by simp), h x (by simp)]
  case makeMap t r =>
    cases r with
    | none =>
      cases P.underlying t with
      | none => rfl
      | some td => cases td <;> rfl
    | some x =>
      have hx := h x (by simp)
      cases P.underlying t with
      | none => rfl
      | some td => cases td <;> first | rfl | (simp only; rw [hx])
  case mapUpdate t m k x => rw [h m (by simp), h k (by simp), h x (by simp)]
  case insert t m k x => rw [h m (by simp), h k (by simp), h x (by simp)]
  case mapEntry t m k => rw [h m (by simp), h k (by simp)]
  case entryStore t m s x => rw [h m (by simp), h s (by simp), h x (by simp)]
  case range t x => rw [h x (by simp)]
  case next x b => cases b with
    | true => simp only; rw [h x (by simp)]
    | false => rfl
  case convert s d x => rw [h x (by simp)]
  case call c =>
    obtain ⟨callee, args, ts⟩ := c
    have h1 : ∀ x ∈ args.toList, ev x = ev' x := fun x hx => h x (by simp [Call.operands]; exact .inr (by simpa using hx))
    obtain ⟨args⟩ := args
    obtain ⟨ts⟩ := ts
    cases callee with
    | value f => rfl
    | invoke r n => rfl
    | builtin b =>
      cases b <;> try rfl
      · simp only at h1 ⊢
        match args, ts with
        | [x, y], [s, t] => simp only; rw [h1 x (by simp), h1 y (by simp)]
        | [], _ => rfl
        | [_], _ => rfl
        | _ :: _ :: _ :: _, _ => rfl
        | [_, _], [] => rfl
        | [_, _], [_] => rfl
        | [_, _], _ :: _ :: _ :: _ => rfl
      · simp only at h1 ⊢
        match args, ts with
        | [x], [t] => simp only; rw [h1 x (by simp)]
        | [], _ => rfl
        | [x], [] => rfl
        | [x], _ :: _ :: _ => rfl
        | _ :: _ :: _, _ => rfl
      · simp only at h1 ⊢
        match args, ts with
        | [x, y], [s, t] => simp only; rw [h1 x (by simp), h1 y (by simp)]
        | [], _ => rfl
        | [_], _ => rfl
        | _ :: _ :: _ :: _, _ => rfl
        | [_, _], [] => rfl
        | [_, _], [_] => rfl
        | [_, _], _ :: _ :: _ :: _ => rfl
  all_goals rfl
theorem opD_congr {P : Program} {cf : CallF} {env env' : List DV} {o : Oper} {H : DH} (h : ∀ x ∈ o.op.operands, evalO env x = evalO env' x) : opD P cf o env H = opD P cf o env' H := by
  unfold opD
  split
  · rename_i f as ts hop
    rw [hop] at h
    rw [calleeD_congr (P := P) h]
  · rename_i r n as ts hop
    rw [hop] at h
    rw [calleeD_congr (P := P) h]
  · rw [pureD_congr h, readD_congr h, moveD_congr h]
end Go.Det

/- A region that draws its order: whatever the order, it comes to what the text's order comes to. -/
namespace Go.Det
set_option linter.unusedVariables false
set_option linter.unusedSimpArgs false
/-! ### what stands ahead of an operation -/
def befF (acc : Array Nat) (o : Oper) : Nat := o.after.foldl (fun s e => if Region.binds .any e then s ||| 2 ^ e.on ||| acc.getD e.on 0 else s) 0
theorem before_eq (ops : Array Oper) : Region.before ops = ops.toList.foldl (fun acc o => acc.push (befF acc o)) #[] := by
  unfold Region.before
  rw [← Array.foldl_toList]
  rfl
theorem befL_low : ∀ (l : List Oper) (acc : Array Nat) (k : Nat), k < acc.size → (l.foldl (fun acc o => acc.push (befF acc o)) acc)[k]? = acc[k]?
  | [], acc, k, _ => rfl
  | o :: l, acc, k, hk => by
    rw [List.foldl_cons, befL_low l _ k (by simp; omega), Array.getElem?_push, if_neg (by omega)]
theorem befL_at : ∀ (l : List Oper) (acc : Array Nat) (m : Nat) (o : Oper), l[m]? = some o → ∃ pre : Array Nat, pre.size = acc.size + m ∧ (l.foldl (fun acc o => acc.push (befF acc o)) acc)[acc.size + m]? = some (befF pre o) ∧
    ∀ k, k < pre.size → (l.foldl (fun acc o => acc.push (befF acc o)) acc)[k]? = pre[k]?
  | [], acc, m, o, h => by simp at h
  | q :: l, acc, m, o, h => by
    cases m with
    | zero =>
      simp at h
      subst h
      refine ⟨acc, rfl, ?_, fun k hk => ?_⟩
      · rw [List.foldl_cons, befL_low l _ _ (by simp), Nat.add_zero, Array.getElem?_push_size]
      · rw [List.foldl_cons, befL_low l _ k (by simp; omega), Array.getElem?_push, if_neg (by omega)]
    | succ m =>
      obtain ⟨pre, h1, h2, h3⟩ := befL_at l (acc.push (befF acc q)) m o (by simpa using h)
      simp only [Array.size_push] at h1 h2
      refine ⟨pre, by omega, ?_, ?_⟩
      · rw [List.foldl_cons, ← h2]; congr 1; omega
      · intro k hk; rw [List.foldl_cons]; exact h3 k hk
theorem fold_bit (acc : Array Nat) (i : Nat) : ∀ (es : List Edge) (s : Nat), (es.foldl (fun s e => if Region.binds .any e then s ||| 2 ^ e.on ||| acc.getD e.on 0 else s) s).testBit i = true →
    s.testBit i = true ∨ ∃ e ∈ es, Region.binds .any e = true ∧ (e.on = i ∨ (acc.getD e.on 0).testBit i = true)
  | [], s, h => .inl h
  | e :: es, s, h => by
    rw [List.foldl_cons] at h
    rcases fold_bit acc i es _ h with h | ⟨e', h1, h2⟩
    · split at h
      · rename_i hb
        rw [Nat.testBit_or, Nat.testBit_or, Bool.or_eq_true, Bool.or_eq_true] at h
        rcases h with (h | h) | h
        · exact .inl h
        · rw [Nat.testBit_two_pow] at h
          exact .inr ⟨e, by simp, hb, .inl (by simpa using h)⟩
        · exact .inr ⟨e, by simp, hb, .inr h⟩
      · exact .inl h
    · exact .inr ⟨e', by simp [h1], h2⟩
theorem before_bit {ops : Array Oper} {j i : Nat} {o : Oper} (ho : ops[j]? = some o) (h : ((Region.before ops).getD j 0).testBit i = true) : ∃ e ∈ o.after.toList, Region.binds .any e = true ∧ (e.on = i ∨ (e.on < j ∧ ((Region.before ops).getD e.on 0).testBit i = true)) := by
  obtain ⟨pre, h1, h2, h3⟩ := befL_at ops.toList #[] j o (by rw [Array.getElem?_toList]; exact ho)
  simp only [List.size_toArray, List.length_nil, Nat.zero_add] at h1 h2
  rw [← before_eq] at h2 h3
  rw [Array.getD_eq_getD_getElem?, h2, Option.getD_some] at h
  unfold befF at h
  rw [← Array.foldl_toList] at h
  rcases fold_bit pre i _ 0 h with h | ⟨e, he, hb, h⟩
  · simp at h
  · refine ⟨e, he, hb, ?_⟩
    rcases h with h | h
    · exact .inl h
    · right
      have hlt : e.on < pre.size := by
        rcases Nat.lt_or_ge e.on pre.size with h' | h'
        · exact h'
        · rw [Array.getD_eq_getD_getElem?, Array.getElem?_eq_none_iff.mpr h'] at h
          simp at h
      refine ⟨by omega, ?_⟩
      rw [Array.getD_eq_getD_getElem?, h3 _ hlt, ← Array.getD_eq_getD_getElem?]
      exact h
/-- What a region that draws its order must be like, for its text's order to tell all. -/
def drawOk (P : Program) (ops : Array Oper) : Bool :=
  (List.range ops.size).all fun j => match ops[j]? with
    | none => true
    | some y => y.after.toList.all (fun e => !Region.binds .any e || decide (e.on < j)) &&
      (List.range j).all fun i => match ops[i]? with
        | none => true
        | some x => ((Region.before ops).getD j 0).testBit i || (x.apart ops y && !(mover P x.op && mover P y.op))
structure DrawOk (P : Program) (ops : Array Oper) : Prop where
  edge : ∀ j y e, ops[j]? = some y → e ∈ y.after.toList → Region.binds .any e = true → e.on < j
  pair : ∀ i j x y, i < j → ops[i]? = some x → ops[j]? = some y → ((Region.before ops).getD j 0).testBit i = false → x.apart ops y = true ∧ (mover P x.op = true → mover P y.op = false)
theorem drawOk_spec {P : Program} {ops : Array Oper} (h : drawOk P ops = true) : DrawOk P ops := by
  unfold drawOk at h
  rw [List.all_eq_true] at h
  constructor
  · intro j y e hy he hb
    have hj : j < ops.size := (Array.getElem?_eq_some_iff.mp hy).1
    have := h j (List.mem_range.mpr hj)
    rw [hy] at this
    simp only [Bool.and_eq_true, List.all_eq_true] at this
    have := this.1 e he
    simpa [hb] using this
  · intro i j x y hij hx hy hbit
    have hj : j < ops.size := (Array.getElem?_eq_some_iff.mp hy).1
    have := h j (List.mem_range.mpr hj)
    rw [hy] at this
    simp only [Bool.and_eq_true] at this
    have := this.2
    rw [List.all_eq_true] at this
    have := this i (List.mem_range.mpr hij)
    rw [hx] at this
    simp only [hbit, Bool.false_or, Bool.and_eq_true, Bool.not_eq_true', Bool.and_eq_false_iff] at this
    refine ⟨this.1, fun hm => ?_⟩
    rcases this.2 with h' | h'
    · rw [hm] at h'; cases h'
    · exact h'
/-! ### slots, by which operations have been performed -/
section
variable {ops : Array Oper} {V : Nat → DV} {e0 : List DV}
def dstOf (ops : Array Oper) (k : Nat) : Option Tmp := (ops[k]?).bind (·.dst)
def envM (ops : Array Oper) (V : Nat → DV) (A : Nat → Bool) (l : List Nat) (e : List DV) : List DV := l.foldl (fun env k => if A k then putD env (dstOf ops k) (V k) else env) e
theorem putD_get (e : List DV) (d : Option Tmp) (v : DV) (t : Nat) (h : d ≠ some t) : (putD e d v)[t]? = e[t]? := by
  cases d with
  | none => rfl
  | some d => simp only [putD, List.getElem?_set]; rw [if_neg (fun e => h (by rw [e]))]
theorem envM_get {A B : Nat → Bool} {t : Nat} : ∀ (l : List Nat) (e f : List DV), e[t]? = f[t]? → (∀ k ∈ l, dstOf ops k = some t → A k = B k) → (envM ops V A l e)[t]? = (envM ops V B l f)[t]?
  | [], e, f, h, _ => h
  | k :: l, e, f, h, hk => by
    refine envM_get l _ _ ?_ (fun m hm => hk m (by simp [hm]))
    show (if A k = true then putD e (dstOf ops k) (V k) else e)[t]? = (if B k = true then putD f (dstOf ops k) (V k) else f)[t]?
    by_cases hd : dstOf ops k = some t
    · have := hk k (by simp) hd
      rw [this]
      split
      · rw [hd]
        simp only [putD, List.getElem?_set, if_true]
        have hl : ∀ (a b : List DV), a[t]? = b[t]? → (t < a.length ↔ t < b.length) := by
          intro a b hab
          rcases Nat.lt_or_ge t a.length with h1 | h1
          · rw [List.getElem?_eq_getElem h1] at hab
            have := (List.getElem?_eq_some_iff.mp hab.symm).1
            exact ⟨fun _ => this, fun _ => h1⟩
          · rw [List.getElem?_eq_none h1] at hab
            have := List.getElem?_eq_none_iff.mp hab.symm
            omega
        have := hl e f h
        by_cases h1 : t < e.length
        · rw [if_pos h1, if_pos (this.mp h1)]
        · rw [if_neg h1, if_neg (fun h2 => h1 (this.mpr h2))]
      · exact h
    · have h1 : ∀ (c : Bool) (x : List DV), (if c = true then putD x (dstOf ops k) (V k) else x)[t]? = x[t]? := by
        intro c x
        split
        · exact putD_get _ _ _ _ hd
        · rfl
      rw [h1, h1]
      exact h
theorem putD_comm (e : List DV) {a b : Option Tmp} (u v : DV) (h : ∀ t, a = some t → b ≠ some t) : putD (putD e a u) b v = putD (putD e b v) a u := by
  cases a with
  | none => rfl
  | some a => cases b with
    | none => rfl
    | some b => simp only [putD]; exact List.set_comm _ _ (fun e => h a rfl (by rw [e]))
theorem envM_putD {A : Nat → Bool} (d : Option Tmp) (v : DV) : ∀ (l : List Nat) (e : List DV), (∀ k ∈ l, A k = true → ∀ t, d = some t → dstOf ops k ≠ some t) → envM ops V A l (putD e d v) = putD (envM ops V A l e) d v
  | [], e, _ => rfl
  | k :: l, e, h => by
    show envM ops V A l (if A k then putD (putD e d v) (dstOf ops k) (V k) else putD e d v) = putD (envM ops V A l (if A k then putD e (dstOf ops k) (V k) else e)) d v
    by_cases ha : A k = true
    · rw [if_pos ha, if_pos ha, putD_comm e v (V k) (h k (by simp) ha)]
      exact envM_putD d v l _ fun m hm => h m (by simp [hm])
    · rw [if_neg ha, if_neg ha]
      exact envM_putD d v l _ fun m hm => h m (by simp [hm])
theorem envM_congr {A B : Nat → Bool} : ∀ (l : List Nat) (e : List DV), (∀ k ∈ l, A k = B k) → envM ops V A l e = envM ops V B l e
  | [], e, _ => rfl
  | k :: l, e, h => by
    show envM ops V A l (if A k then _ else _) = envM ops V B l (if B k then _ else _)
    rw [h k (by simp)]
    exact envM_congr l _ fun m hm => h m (by simp [hm])
/-- One more is performed. -/
theorem envM_add {A B : Nat → Bool} {j n : Nat} (hj : j < n) (hA : A j = false) (hB : ∀ k, B k = (A k || decide (k = j))) (hlater : ∀ k, j < k → k < n → A k = true → ∀ t, dstOf ops j = some t → dstOf ops k ≠ some t) (e : List DV) :
    envM ops V B (List.range n) e = putD (envM ops V A (List.range n) e) (dstOf ops j) (V j) := by
  have hr : List.range n = List.range j ++ j :: List.range' (j + 1) (n - j - 1) := by
    rw [List.range_eq_range', List.range_eq_range']
    have h1 : n = j + (n - j) := by omega
    conv => lhs; rw [h1]
    rw [← List.range'_append_1]
    congr 1
    have : n - j = (n - j - 1) + 1 := by omega
    rw [this, List.range'_succ]
    simp
  rw [hr]
  unfold envM
  rw [List.foldl_append, List.foldl_append, List.foldl_cons, List.foldl_cons]
  have h1 := envM_congr (ops := ops) (V := V) (A := B) (B := A) (List.range j) e (fun k hk => by rw [hB]; have := List.mem_range.mp hk; simp; omega)
  unfold envM at h1
  rw [h1, hA, hB, hA]
  simp only [Bool.false_or, decide_true, if_true, Bool.false_eq_true, if_false]
  have h2 := envM_congr (ops := ops) (V := V) (A := B) (B := A) (List.range' (j + 1) (n - j - 1)) (putD (List.foldl (fun env k => if A k = true then putD env (dstOf ops k) (V k) else env) e (List.range j)) (dstOf ops j) (V j)) (fun k hk => by rw [hB]; have := List.mem_range'.mp hk; simp; omega)
  unfold envM at h2
  rw [h2]
  have h3 := envM_putD (ops := ops) (V := V) (A := A) (dstOf ops j) (V j) (List.range' (j + 1) (n - j - 1)) (List.foldl (fun env k => if A k = true then putD env (dstOf ops k) (V k) else env) e (List.range j)) (fun k hk ha t ht => by
    have := List.mem_range'.mp hk
    exact hlater k (by omega) (by omega) ha t ht)
  exact h3
end
end Go.Det

/- A region that draws its order: whatever the order, it comes to what the text's order comes to. -/
namespace Go.Det
set_option linter.unusedVariables false
set_option linter.unusedSimpArgs false
theorem filter_lt {p q : Nat → Bool} {j : Nat} (hpq : ∀ k, q k = true → p k = true) (hp : p j = true) (hq : q j = false) : ∀ (l : List Nat), j ∈ l → (l.filter q).length < (l.filter p).length
  | [], h => by cases h
  | k :: l, h => by
    have hle : ∀ (l : List Nat), (l.filter q).length ≤ (l.filter p).length := by
      intro l
      induction l with
      | nil => exact Nat.le_refl _
      | cons k l ih =>
        simp only [List.filter_cons]
        by_cases h1 : q k = true
        · rw [if_pos h1, if_pos (hpq k h1)]; simpa using ih
        · rw [if_neg h1]
          split
          · simp only [List.length_cons]; omega
          · exact ih
    simp only [List.filter_cons]
    rcases List.mem_cons.mp h with rfl | h
    · rw [if_neg (by rw [hq]; simp), if_pos hp]
      have := hle l
      simp only [List.length_cons]; omega
    · have := filter_lt hpq hp hq l h
      by_cases h1 : q k = true
      · rw [if_pos h1, if_pos (hpq k h1)]; simpa using this
      · rw [if_neg h1]
        split
        · simp only [List.length_cons]; omega
        · exact this
section
variable {P : Program} {ρ : Rho}
theorem opD_read {cf : CallF} {o : Oper} {env : List DV} {H : DH} {v : DV} (hm : mover P o.op = false) (hr : reader P o.op = true) (h : readD P o (evalO env) H = some v) : opD P cf o env H = some (v, H) := by
  unfold opD
  split
  · rename_i hop; rw [hop] at hm; simp [mover] at hm
  · rename_i hop; rw [hop] at hm; simp [mover] at hm
  · rw [if_neg (by rw [hm]; simp), if_pos hr, h]; rfl
theorem opD_pure {cf : CallF} {o : Oper} {env : List DV} {H : DH} {v : DV} (hm : mover P o.op = false) (hr : reader P o.op = false) (h : pureD P o (evalO env) = some v) : opD P cf o env H = some (v, H) := by
  unfold opD
  split
  · rename_i hop; rw [hop] at hm; simp [mover] at hm
  · rename_i hop; rw [hop] at hm; simp [mover] at hm
  · rw [if_neg (by rw [hm]; simp), if_neg (by rw [hr]; simp), h]; rfl
theorem getD_of {e f : List DV} {t : Nat} (h : e[t]? = f[t]?) : e.getD t undefD = f.getD t undefD := by simp [List.getD, h]
/-- What holds where some operations have been performed. -/
structure DrawInv (P : Program) (ops : Array Oper) (E : Nat → List DV) (HH : Nat → DH) (V : Nat → DV) (ρ : Rho) (w : World) (fuel : Nat) (L : Nat → Bool) (a : Act) (ρ1 : Rho) (w1 : World) (m : Nat) : Prop where
  out : ∀ k, ops.size ≤ k → L k = false
  down : ∀ k o e, ops[k]? = some o → L k = true → e ∈ o.after.toList → Region.binds .any e = true → L e.on = true
  cnt : ((List.range ops.size).filter fun k => !L k).length ≤ fuel
  env : EnvR ρ1 (envM ops V L (List.range ops.size) (E 0)) a.tmps
  defers : a.defers = []
  le : m ≤ ops.size
  mov : ∀ k o, ops[k]? = some o → Trace.on ops E k o → mover P o.op = true → (L k = true ↔ k < m)
  heap : Moves ρ (HH 0) w ρ1 (HH m) w1
theorem draw_any {cf : CallF} (hcf : CFSound P cf) {ops : Array Oper} (hok : DrawOk P ops) {E : Nat → List DV} {HH : Nat → DH} {V : Nat → DV} (ht : Trace P cf ops (Region.before ops) 0 E HH V) {Q : Exit → Act → World → Prop} {w : World}
    (hq : ∀ ρ' a' w', EnvR ρ' (E ops.size) a'.tmps → a'.defers = [] → Moves ρ (HH 0) w ρ' (HH ops.size) w' → Q .normal a' w') :
    ∀ (fuel : Nat) (listed : Array Bool) (a : Act) (ρ1 : Rho) (w1 : World) (m : Nat), listed.size = ops.size → DrawInv P ops E HH V ρ w fuel (fun k => listed.getD k false) a ρ1 w1 m → wpAny P .any ops Q fuel listed a w1 := by
  -- the slots ahead of operation j
  have hE : ∀ j, j ≤ ops.size → E j = envM ops V (fun k => decide (k < j)) (List.range ops.size) (E 0) := by
    intro j
    induction j with
    | zero =>
      intro _
      have : ∀ (l : List Nat) (e : List DV), envM ops V (fun k => decide (k < 0)) l e = e := by
        intro l
        induction l with
        | nil => intro e; rfl
        | cons k l ih => intro e; exact ih e
      rw [this]
    | succ j ih =>
      intro hj
      obtain ⟨o, ho⟩ : ∃ o, ops[j]? = some o := ⟨ops[j], Array.getElem?_eq_getElem (by omega)⟩
      rw [ht.env j o (by omega) ho, ih (by omega)]
      have := envM_add (ops := ops) (V := V) (A := fun k => decide (k < j)) (B := fun k => decide (k < j + 1)) (j := j) (n := ops.size) (by omega) (by simp) (fun k => by
        by_cases h : k < j
        · simp [h]; omega
        · by_cases h2 : k = j
          · simp [h2]
          · simp [h, h2]; omega) (fun k hk _ ha => by simp at ha; omega) (E 0)
      rw [this]
      simp [dstOf, ho]
  -- heaps that no operation stands between
  have hH : ∀ d i, i + d ≤ ops.size → (∀ k o, i ≤ k → k < i + d → ops[k]? = some o → Trace.on ops E k o → mover P o.op = false) → HH (i + d) = HH i := by
    intro d
    induction d with
    | zero => intro i _ _; rfl
    | succ d ih =>
      intro i hi hno
      obtain ⟨o, ho⟩ : ∃ o, ops[i + d]? = some o := ⟨ops[i + d], Array.getElem?_eq_getElem (by omega)⟩
      have h1 : HH (i + d + 1) = HH (i + d) := by
        by_cases hon : Trace.on ops E (i + d) o
        · exact (opD_stays (ht.op _ o (by omega) ho hon) (hno _ o (by omega) (by omega) ho hon)).1
        · exact (ht.off _ o (by omega) ho hon).2
      show HH (i + d + 1) = HH i
      rw [h1]
      exact ih i (by omega) fun k o hk1 hk2 => hno k o hk1 (by omega)
  intro fuel
  induction fuel with
  | zero =>
    intro listed a ρ1 w1 m hsz inv
    have hall : ∀ k, k < ops.size → listed.getD k false = true := by
      intro k hk
      rcases hb : listed.getD k false with _ | _
      · exfalso
        have hmem : k ∈ (List.range ops.size).filter fun k => !listed.getD k false := by simp [hk]; simpa using hb
        have := inv.cnt
        have h0 := List.length_eq_zero_iff.mp (Nat.le_zero.mp this)
        rw [h0] at hmem
        cases hmem
      · rfl
    have hr : Region.ready .any ops listed = [] := by
      unfold Region.ready
      rw [List.filter_eq_nil_iff]
      intro k hk
      have hk' := List.mem_range.mp hk
      have := hall k hk'
      have h2 : listed.getD k true = true := by
        rw [Array.getD_eq_getD_getElem?] at this ⊢
        rw [Array.getElem?_eq_getElem (by omega)] at this ⊢
        exact this
      simp [h2]
    refine ⟨hr, ?_⟩
    have hmask : envM ops V (fun k => listed.getD k false) (List.range ops.size) (E 0) = E ops.size := by
      rw [hE ops.size (Nat.le_refl _)]
      exact envM_congr _ _ fun k hk => by have := List.mem_range.mp hk; rw [hall k this]; simp [this]
    have hHn : HH ops.size = HH m := by
      have := hH (ops.size - m) m (by have := inv.le; omega) (fun k o hk1 hk2 ho hon => by
        rcases hb : mover P o.op with _ | _
        · rfl
        · have hk3 : k < ops.size := (Array.getElem?_eq_some_iff.mp ho).1
          have := (inv.mov k o ho hon hb).mp (hall k hk3)
          omega)
      rwa [show m + (ops.size - m) = ops.size by have := inv.le; omega] at this
    refine hq ρ1 a w1 ?_ inv.defers ?_
    · have := inv.env; rw [hmask] at this; exact this
    · rw [hHn]; exact inv.heap
  | succ fuel ih =>
    intro listed a ρ1 w1 m hsz inv
    constructor
    · -- none is ready: all have been performed
      intro hr
      have hall : ∀ k, k < ops.size → listed.getD k false = true := by
        intro k
        induction k using Nat.strongRecOn with
        | _ k ihk =>
          intro hk
          rcases hb : listed.getD k false with _ | _
          · exfalso
            obtain ⟨o, ho⟩ : ∃ o, ops[k]? = some o := ⟨ops[k], Array.getElem?_eq_getElem hk⟩
            unfold Region.ready at hr
            rw [List.filter_eq_nil_iff] at hr
            have := hr k (List.mem_range.mpr hk)
            apply this
            have h2 : listed.getD k true = false := by
              rw [Array.getD_eq_getD_getElem?] at hb ⊢
              rw [Array.getElem?_eq_getElem (by omega)] at hb ⊢
              exact hb
            rw [h2, ho]
            simp only [Bool.not_false, Bool.true_and, Option.map_some, Option.getD_some]
            rw [← Array.all_toList, List.all_eq_true]
            intro e he
            rcases hbe : Region.binds .any e with _ | _
            · rfl
            · have hlt := hok.edge k o e ho he hbe
              simp only [Bool.not_true, Bool.false_or]
              exact ihk e.on hlt (by omega)
          · rfl
      have hmask : envM ops V (fun k => listed.getD k false) (List.range ops.size) (E 0) = E ops.size := by
        rw [hE ops.size (Nat.le_refl _)]
        exact envM_congr _ _ fun k hk => by have := List.mem_range.mp hk; rw [hall k this]; simp [this]
      have hHn : HH ops.size = HH m := by
        have := hH (ops.size - m) m (by have := inv.le; omega) (fun k o hk1 hk2 ho hon => by
          rcases hb : mover P o.op with _ | _
          · rfl
          · have hk3 : k < ops.size := (Array.getElem?_eq_some_iff.mp ho).1
            have := (inv.mov k o ho hon hb).mp (hall k hk3)
            omega)
        rwa [show m + (ops.size - m) = ops.size by have := inv.le; omega] at this
      refine hq ρ1 a w1 ?_ inv.defers ?_
      · have := inv.env; rw [hmask] at this; exact this
      · rw [hHn]; exact inv.heap
    · intro j hj
      unfold Region.ready at hj
      rw [List.mem_filter] at hj
      obtain ⟨hjr, hjc⟩ := hj
      have hjn := List.mem_range.mp hjr
      obtain ⟨o, ho⟩ : ∃ o, ops[j]? = some o := ⟨ops[j], Array.getElem?_eq_getElem hjn⟩
      rw [ho] at hjc
      simp only [Bool.and_eq_true, Bool.not_eq_true', Option.map_some, Option.getD_some] at hjc
      obtain ⟨hLj', hedges'⟩ := hjc
      have hLj : listed.getD j false = false := by
        rw [Array.getD_eq_getD_getElem?] at hLj' ⊢
        rw [Array.getElem?_eq_getElem (by omega)] at hLj' ⊢
        exact hLj'
      have hedges : ∀ e ∈ o.after.toList, Region.binds .any e = true → listed.getD e.on false = true := by
        intro e he hb
        rw [← Array.all_toList, List.all_eq_true] at hedges'
        have := hedges' e he
        rw [hb] at this
        simpa using this
      -- what stands ahead has been performed
      have hpred : ∀ k q, ops[k]? = some q → (∀ e ∈ q.after.toList, Region.binds .any e = true → listed.getD e.on false = true) → ∀ i, ((Region.before ops).getD k 0).testBit i = true → listed.getD i false = true := by
        intro k
        induction k using Nat.strongRecOn with
        | _ k ihk =>
          intro q hq' hed i hbit
          obtain ⟨e, he, hb, hc⟩ := before_bit hq' hbit
          rcases hc with hc | ⟨hlt, hbit'⟩
          · rw [← hc]; exact hed e he hb
          · have hon := hed e he hb
            have hkn : k < ops.size := (Array.getElem?_eq_some_iff.mp hq').1
            obtain ⟨q2, hq2⟩ : ∃ o, ops[e.on]? = some o := ⟨ops[e.on], Array.getElem?_eq_getElem (by omega)⟩
            exact ihk e.on hlt q2 hq2 (fun e2 he2 hb2 => inv.down e.on q2 e2 hq2 hon he2 hb2) i hbit'
      have hpredj := hpred j o ho hedges
      have hback : ∀ k q, ops[k]? = some q → ((Region.before ops).getD k 0).testBit j = true → listed.getD k false = false := by
        intro k q hq' hbit
        rcases hb : listed.getD k false with _ | _
        · rfl
        · have := hpred k q hq' (fun e he hbb => inv.down k q e hq' hb he hbb) j hbit
          rw [hLj] at this
          cases this
      -- which writers of what it looks at, and of what it writes, have been performed
      have hwr : ∀ k t, k ≠ j → dstOf ops k = some t → (t ∈ o.looksAt ops ∨ o.dst = some t) → (listed.getD k false = decide (k < j)) := by
        intro k t hne hd hlook
        obtain ⟨q, hq', hqd⟩ : ∃ q, ops[k]? = some q ∧ q.dst = some t := by
          unfold dstOf at hd
          cases hk : ops[k]? with
          | none => rw [hk] at hd; cases hd
          | some q => rw [hk] at hd; exact ⟨q, rfl, hd⟩
        rcases Nat.lt_or_gt_of_ne hne with hlt | hgt
        · rw [decide_eq_true hlt]
          rcases hb : ((Region.before ops).getD j 0).testBit k with _ | _
          · exfalso
            obtain ⟨hap, _⟩ := hok.pair k j q o hlt hq' ho hb
            obtain ⟨h1, h2, h3⟩ := Oper.apart_spec hap
            rcases hlook with hl | hl
            · exact h1 t hqd hl
            · exact h2 t hqd hl
          · exact hpredj k hb
        · rw [decide_eq_false (by omega)]
          rcases hb : ((Region.before ops).getD k 0).testBit j with _ | _
          · exfalso
            obtain ⟨hap, _⟩ := hok.pair j k o q hgt ho hq' hb
            obtain ⟨h1, h2, h3⟩ := Oper.apart_spec hap
            rcases hlook with hl | hl
            · exact h3 t hqd hl
            · exact h2 t hl hqd
          · exact hback k q hq' hb
      have hslot : ∀ t, (t ∈ o.looksAt ops ∨ o.dst = some t) → (envM ops V (fun k => listed.getD k false) (List.range ops.size) (E 0))[t]? = (E j)[t]? := by
        intro t hl
        rw [hE j (by omega)]
        refine envM_get _ _ _ rfl fun k hk hd => ?_
        by_cases e : k = j
        · subst e; rw [hLj]; simp
        · exact hwr k t e hd hl
      have heval : ∀ x ∈ o.op.operands, evalO (envM ops V (fun k => listed.getD k false) (List.range ops.size) (E 0)) x = evalO (E j) x := by
        intro x hx
        cases x with
        | tmp t =>
          simp only [evalO]
          rw [getD_of (hslot t (.inl ?_))]
          unfold Oper.looksAt
          rw [List.mem_append]
          left
          rw [List.mem_filterMap]
          exact ⟨_, by simpa using hx, rfl⟩
        | _ => rfl
      have hwant : Region.wanted o (dyield ops (envM ops V (fun k => listed.getD k false) (List.range ops.size) (E 0))) = Region.wanted o (dyield ops (E j)) := by
        unfold Region.wanted
        cases hg : o.guard with
        | none => rfl
        | some gw =>
          obtain ⟨g, want⟩ := gw
          simp only
          congr 1
          unfold dyield
          cases hd : (ops[g]?).bind (·.dst) with
          | none => rfl
          | some t =>
            simp only [Option.bind_some]
            rw [hslot t (.inl ?_)]
            unfold Oper.looksAt
            rw [List.mem_append]
            right
            rw [hg]
            simp [hd]
      -- the new slots
      have hL' : ∀ k, (listed.setIfInBounds j true).getD k false = (listed.getD k false || decide (k = j)) := by
        intro k
        rw [Array.getD_eq_getD_getElem?, Array.getD_eq_getD_getElem?, Array.getElem?_setIfInBounds]
        by_cases e : j = k
        · subst e
          rw [if_pos rfl, if_pos (by omega)]
          simp
        · rw [if_neg e]
          have : decide (k = j) = false := by simp; exact fun h => e h.symm
          rw [this, Bool.or_false]
      have hdst : dstOf ops j = o.dst := by simp [dstOf, ho]
      have hnew := envM_add (ops := ops) (V := V) (A := fun k => listed.getD k false) (B := fun k => (listed.setIfInBounds j true).getD k false) (j := j) (n := ops.size) hjn hLj hL' (fun k hk hkn hLk t ht' hkd => by
        rw [hdst] at ht'
        have := hwr k t (by omega) hkd (.inr ht')
        rw [hLk, decide_eq_false (by omega)] at this
        cases this) (E 0)
      rw [hdst] at hnew
      -- on to the rest
      have go : ∀ (v : Value) (w2 : World) (ρ2 : Rho) (m2 : Nat), VR ρ2 (V j) v → ρ1.le ρ2 → m2 ≤ ops.size → (∀ k q, ops[k]? = some q → Trace.on ops E k q → mover P q.op = true → ((listed.setIfInBounds j true).getD k false = true ↔ k < m2)) →
          Moves ρ (HH 0) w ρ2 (HH m2) w2 → wpAny P .any ops Q fuel (listed.setIfInBounds j true) (a.put o.dst v) w2 := by
        intro v w2 ρ2 m2 hv hle hm2 hmov hmoves
        refine ih _ _ ρ2 w2 m2 (by simpa using hsz) ⟨?_, ?_, ?_, ?_, ?_, hm2, hmov, hmoves⟩
        · intro k hk
          rw [hL']
          have := inv.out k hk
          rw [this]
          simp
          omega
        · intro k q e hq' hLk he hb
          rw [hL'] at hLk ⊢
          rw [Bool.or_eq_true] at hLk ⊢
          rcases hLk with h | h
          · exact .inl (inv.down k q e hq' h he hb)
          · have := of_decide_eq_true h
            subst this
            rw [ho] at hq'
            cases hq'
            exact .inl (hedges e he hb)
        · have := filter_lt (p := fun k => !listed.getD k false) (q := fun k => !(listed.setIfInBounds j true).getD k false) (j := j) (fun k hk => by
            rw [hL'] at hk
            simp only [Bool.not_or, Bool.and_eq_true] at hk
            exact hk.1) (by simpa using hLj) (by rw [hL']; simp) (List.range ops.size) (List.mem_range.mpr hjn)
          have hc := inv.cnt
          omega
        · rw [hnew]
          exact (inv.env.mono hle).putD hv o.dst
        · rw [put_defers]; exact inv.defers
      unfold wpOp
      rw [ho]
      simp only
      rw [yield_eq inv.env, hwant]
      by_cases hw : Region.wanted o (dyield ops (E j)) = true
      · rw [if_pos hw]
        left
        have hop := ht.op j o (by omega) ho hw
        have same : ∀ k q, ops[k]? = some q → k ≠ j → ((listed.setIfInBounds j true).getD k false = true ↔ listed.getD k false = true) := by
          intro k q hq' hne
          rw [hL']
          simp [hne]
        by_cases hmv : mover P o.op = true
        · -- it changes the heap: all that did so ahead of it have been performed, none behind it
          have hmj : m ≤ j := by
            rcases Nat.lt_or_ge j m with h | h
            · have := (inv.mov j o ho hw hmv).mpr h
              rw [hLj] at this
              cases this
            · exact h
          have hbetween : ∀ k q, m ≤ k → k < j → ops[k]? = some q → Trace.on ops E k q → mover P q.op = false := by
            intro k q hk1 hk2 hq' hon
            rcases hb : mover P q.op with _ | _
            · rfl
            · exfalso
              have hnot : listed.getD k false = false := by
                rcases hb2 : listed.getD k false with _ | _
                · rfl
                · have := (inv.mov k q hq' hon hb).mp hb2; omega
              rcases hbit : ((Region.before ops).getD j 0).testBit k with _ | _
              · have := (hok.pair k j q o hk2 hq' ho hbit).2 hb
                rw [hmv] at this; cases this
              · have := hpredj k hbit
                rw [hnot] at this; cases this
          have hHm : HH j = HH m := by
            have := hH (j - m) m (by omega) (fun k q hk1 hk2 => hbetween k q hk1 (by omega))
            rwa [show m + (j - m) = j by omega] at this
          rw [hHm, ← opD_congr heval] at hop
          refine op_wp hcf hop inv.env inv.heap.agree fun v w2 ρ2 hv hmoves => ?_
          refine go v w2 ρ2 (j + 1) hv hmoves.le (by omega) (fun k q hq' hon hb => ?_) (inv.heap.trans hmoves)
          by_cases e : k = j
          · subst e; rw [hL']; simp
          · rw [same k q hq' e]
            have hi := inv.mov k q hq' hon hb
            rw [hi]
            constructor
            · intro h; omega
            · intro h
              rcases Nat.lt_or_ge k m with h2 | h2
              · exact h2
              · have := hbetween k q h2 (by omega) hq' hon
                rw [hb] at this; cases this
        · have hmv' : mover P o.op = false := by simpa using hmv
          have hmov2 : ∀ k q, ops[k]? = some q → Trace.on ops E k q → mover P q.op = true → ((listed.setIfInBounds j true).getD k false = true ↔ k < m) := by
            intro k q hq' hon hb
            have hne : k ≠ j := fun e => by subst e; rw [ho] at hq'; cases hq'; rw [hmv'] at hb; cases hb
            rw [same k q hq' hne]
            exact inv.mov k q hq' hon hb
          have hval : opD P cf o (envM ops V (fun k => listed.getD k false) (List.range ops.size) (E 0)) (HH m) = some (V j, HH m) := by
            rw [opD_congr heval]
            obtain ⟨hHj, hrd, hpu⟩ := opD_stays hop hmv'
            by_cases hr : reader P o.op = true
            · refine opD_read hmv' hr ?_
              rcases Nat.lt_or_ge j m with hlt | hge
              · -- it was read behind: the last that changed the heap and has been performed
                by_cases hex : ∃ k q, j < k ∧ k < m ∧ ops[k]? = some q ∧ Trace.on ops E k q ∧ mover P q.op = true
                · -- the greatest of these
                  have hgreat : ∀ d, d ≤ m → (∃ k q, j < k ∧ k < d ∧ ops[k]? = some q ∧ Trace.on ops E k q ∧ mover P q.op = true) → ∃ k q, j < k ∧ k < d ∧ ops[k]? = some q ∧ Trace.on ops E k q ∧ mover P q.op = true ∧ ∀ k' q', k < k' → k' < d → ops[k']? = some q' → Trace.on ops E k' q' → mover P q'.op = false := by
                    intro d
                    induction d with
                    | zero => rintro _ ⟨k, q, h1, h2, _⟩; omega
                    | succ d ihd =>
                      rintro hd ⟨k, q, h1, h2, h3, h4, h5⟩
                      by_cases hlast : ∃ q', ops[d]? = some q' ∧ Trace.on ops E d q' ∧ mover P q'.op = true ∧ j < d
                      · obtain ⟨q', h6, h7, h8, h9⟩ := hlast
                        exact ⟨d, q', h9, by omega, h6, h7, h8, fun k' _ hk1 hk2 => by omega⟩
                      · have hkd : k < d := by
                          rcases Nat.lt_or_ge k d with h | h
                          · exact h
                          · have : k = d := by omega
                            subst this
                            exact absurd ⟨q, h3, h4, h5, h1⟩ hlast
                        obtain ⟨k2, q2, e1, e2, e3, e4, e5, e6⟩ := ihd (by omega) ⟨k, q, h1, hkd, h3, h4, h5⟩
                        refine ⟨k2, q2, e1, by omega, e3, e4, e5, fun k' q' hk1 hk2 hq' hon => ?_⟩
                        rcases Nat.lt_or_ge k' d with h | h
                        · exact e6 k' q' hk1 h hq' hon
                        · have : k' = d := by omega
                          subst this
                          rcases hb : mover P q'.op with _ | _
                          · rfl
                          · exact absurd ⟨q', hq', hon, hb, by omega⟩ hlast
                  obtain ⟨k, q, h1, h2, h3, h4, h5, h6⟩ := hgreat m (Nat.le_refl _) hex
                  have hHk : HH m = HH (k + 1) := by
                    have := hH (m - (k + 1)) (k + 1) (by have := inv.le; omega) (fun k' q' hk1 hk2 hq' hon => h6 k' q' (by omega) (by omega) hq' hon)
                    rwa [show k + 1 + (m - (k + 1)) = m by omega] at this
                  rw [hHk]
                  have hLk := (inv.mov k q h3 h4 h5).mpr h2
                  have hbit : ((Region.before ops).getD k 0).testBit j = false := by
                    rcases hb : ((Region.before ops).getD k 0).testBit j with _ | _
                    · rfl
                    · have := hback k q h3 hb
                      rw [hLk] at this; cases this
                  exact ht.later j o k q (by omega) h1 ho h3 hw h4 hmv' hr h5 hbit
                · have hHk : HH m = HH j := by
                    have := hH (m - j) j (by have := inv.le; omega) (fun k' q' hk1 hk2 hq' hon => by
                      rcases hb : mover P q'.op with _ | _
                      · rfl
                      · exfalso
                        rcases Nat.lt_or_ge j k' with h | h
                        · exact hex ⟨k', q', h, by omega, hq', hon, hb⟩
                        · have : k' = j := by omega
                          subst this
                          rw [ho] at hq'; cases hq'
                          rw [hmv'] at hb; cases hb)
                    rwa [show j + (m - j) = m by omega] at this
                  rw [hHk]
                  exact hrd hr
              · -- it was read ahead: the first that changes the heap and has not been performed
                by_cases hex : ∃ k q, m ≤ k ∧ k < j ∧ ops[k]? = some q ∧ Trace.on ops E k q ∧ mover P q.op = true
                · have hleast : ∀ d, (∃ k q, m ≤ k ∧ k < m + d ∧ ops[k]? = some q ∧ Trace.on ops E k q ∧ mover P q.op = true) → ∃ k q, m ≤ k ∧ k < m + d ∧ ops[k]? = some q ∧ Trace.on ops E k q ∧ mover P q.op = true ∧ ∀ k' q', m ≤ k' → k' < k → ops[k']? = some q' → Trace.on ops E k' q' → mover P q'.op = false := by
                    intro d
                    induction d with
                    | zero => rintro ⟨k, q, h1, h2, _⟩; omega
                    | succ d ihd =>
                      rintro ⟨k, q, h1, h2, h3, h4, h5⟩
                      by_cases hbefore : ∃ k q, m ≤ k ∧ k < m + d ∧ ops[k]? = some q ∧ Trace.on ops E k q ∧ mover P q.op = true
                      · obtain ⟨k2, q2, e1, e2, e3⟩ := ihd hbefore
                        exact ⟨k2, q2, e1, by omega, e3⟩
                      · refine ⟨k, q, h1, h2, h3, h4, h5, fun k' q' hk1 hk2 hq' hon => ?_⟩
                        rcases hb : mover P q'.op with _ | _
                        · rfl
                        · exact absurd ⟨k', q', hk1, by omega, hq', hon, hb⟩ hbefore
                  obtain ⟨k, q, h1, h2, h3, h4, h5, h6⟩ := hleast (j - m) (by obtain ⟨k, q, e1, e2, e3⟩ := hex; exact ⟨k, q, e1, by omega, e3⟩)
                  have hHk : HH k = HH m := by
                    have hkn : k < ops.size := (Array.getElem?_eq_some_iff.mp h3).1
                    have := hH (k - m) m (by omega) (fun k' q' hk1 hk2 hq' hon => h6 k' q' hk1 (by omega) hq' hon)
                    rwa [show m + (k - m) = k by omega] at this
                  rw [← hHk]
                  have hnot : listed.getD k false = false := by
                    rcases hb2 : listed.getD k false with _ | _
                    · rfl
                    · have := (inv.mov k q h3 h4 h5).mp hb2; omega
                  have hbit : ((Region.before ops).getD j 0).testBit k = false := by
                    rcases hb : ((Region.before ops).getD j 0).testBit k with _ | _
                    · rfl
                    · have := hpredj k hb
                      rw [hnot] at this; cases this
                  exact ht.sooner j o k q (by omega) (by omega) ho h3 hw h4 hmv' hr h5 hbit
                · have hHk : HH j = HH m := by
                    have := hH (j - m) m (by omega) (fun k' q' hk1 hk2 hq' hon => by
                      rcases hb : mover P q'.op with _ | _
                      · rfl
                      · exact absurd ⟨k', q', hk1, by omega, hq', hon, hb⟩ hex)
                    rwa [show m + (j - m) = j by omega] at this
                  rw [← hHk]
                  exact hrd hr
            · have hr' : reader P o.op = false := by simpa using hr
              exact opD_pure hmv' hr' (hpu hr')
          refine op_wp hcf hval inv.env inv.heap.agree fun v w2 ρ2 hv hmoves => ?_
          exact go v w2 ρ2 m hv hmoves.le inv.le hmov2 (inv.heap.trans hmoves)
      · rw [if_neg hw]
        obtain ⟨hVj, hHj⟩ := ht.off j o (by omega) ho hw
        refine go undef w1 ρ1 m (by rw [hVj]; exact VR_undef _) (Rho.le_refl _) inv.le (fun k q hq' hon hb => ?_) inv.heap
        have hne : k ≠ j := fun e => by subst e; rw [ho] at hq'; cases hq'; exact hw hon
        rw [hL']
        simp only [hne, decide_false, Bool.or_false]
        exact inv.mov k q hq' hon hb
end
end Go.Det
