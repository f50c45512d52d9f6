/- Reasoning about code: what it comes to, with no numbers of rounds. -/
import Derived.Test.YtphnddoneocfhaaD21
namespace Go.Det
set_option linter.unusedVariables false
set_option linter.unusedSimpArgs false

section
variable {P : Program} {X : Ext}

theorem getD_zero (x : DV) (xs : List DV) (d : DV) : (x :: xs).getD 0 d = x := rfl
theorem getD_succ (x : DV) (xs : List DV) (n : Nat) (d : DV) : (x :: xs).getD (n + 1) d = xs.getD n d := rfl
theorem fieldAt_zero (x : Field) (xs : List Field) (h : 0 < (x :: xs).toArray.size) : (x :: xs).toArray[0] = x := rfl
theorem fieldAt_succ (x : Field) (xs : List Field) (n : Nat) (h : n + 1 < (x :: xs).toArray.size) : (x :: xs).toArray[n + 1] = xs.toArray[n]'(by simpa using h) := rfl

theorem DH.new_next (H : DH) (o : DObj) : (H.new o).next = H.next + 1 := rfl
theorem DH.set_next (H : DH) (l : Nat) (o : Option DObj) : (H.set l o).next = H.next := rfl

/-- A call comes to an answer of which K holds. -/
structure CallWp (P : Program) (X : Ext) (f : FuncId) (args : List DV) (H : DH) (K : DV → DH → Prop) : Prop where
  ex : ∃ k r H', callD P X k f args H = some (r, H') ∧ K r H'

/-- A code comes to an exit of which Q holds. -/
structure Dwp (P : Program) (X : Ext) (c : Code) (st : DSt) (Q : DExit → DSt → Prop) : Prop where
  ex : ∃ k e st', execD P (callD P X k) k c st = some (e, st') ∧ Q e st'

structure OpsWp (P : Program) (X : Ext) (all : Array Oper) (l : List Oper) (st : DSt) (K : DSt → Prop) : Prop where
  ex : ∃ k st', runOps P (callD P X k) all l st = some st' ∧ K st'

structure OpWp (P : Program) (X : Ext) (o : Oper) (env : List DV) (H : DH) (K : DV → DH → Prop) : Prop where
  ex : ∃ k v H', opD P (callD P X k) o env H = some (v, H') ∧ K v H'

theorem CallWp.mono {f : FuncId} {args : List DV} {H : DH} {K K' : DV → DH → Prop} (h : CallWp P X f args H K) (hk : ∀ r H', K r H' → K' r H') : CallWp P X f args H K' := by
  obtain ⟨k, r, H', h1, h2⟩ := h.ex
  exact ⟨⟨k, r, H', h1, hk _ _ h2⟩⟩

theorem Dwp.mono {c : Code} {st : DSt} {Q Q' : DExit → DSt → Prop} (h : Dwp P X c st Q) (hk : ∀ e st', Q e st' → Q' e st') : Dwp P X c st Q' := by
  obtain ⟨k, e, st', h1, h2⟩ := h.ex
  exact ⟨⟨k, e, st', h1, hk _ _ h2⟩⟩

theorem dwp_skip {st : DSt} {Q : DExit → DSt → Prop} (h : Q .normal st) : Dwp P X .skip st Q := ⟨⟨1, _, _, rfl, h⟩⟩
theorem dwp_label {n : Nat} {st : DSt} {Q : DExit → DSt → Prop} (h : Q .normal st) : Dwp P X (.label n) st Q := ⟨⟨1, _, _, rfl, h⟩⟩
theorem dwp_ret {st : DSt} {Q : DExit → DSt → Prop} (h : Q .ret st) : Dwp P X .ret st Q := ⟨⟨1, _, _, rfl, h⟩⟩
theorem dwp_exit {n : Nat} {st : DSt} {Q : DExit → DSt → Prop} (h : Q (.exit n) st) : Dwp P X (.exit n) st Q := ⟨⟨1, _, _, rfl, h⟩⟩

/-- What follows a first part. -/
def thenD (next : DSt → Prop) (Q : DExit → DSt → Prop) : DExit → DSt → Prop
  | .normal, st => next st
  | e, st => Q e st

theorem dwp_seq {a b : Code} {st : DSt} {Q : DExit → DSt → Prop} (h : Dwp P X a st (thenD (fun st => Dwp P X b st Q) Q)) : Dwp P X (.seq a b) st Q := by
  obtain ⟨k, e, st1, h1, h2⟩ := h.ex
  cases e with
  | normal =>
    obtain ⟨k2, e2, st2, h3, h4⟩ := h2.ex
    refine ⟨⟨k + k2 + 1, e2, st2, ?_, h4⟩⟩
    simp only [execD]
    rw [execD_mono (callD_mono k (k + k2 + 1) (by omega)) k (k + k2) (by omega) _ _ _ h1]
    exact execD_mono (callD_mono k2 (k + k2 + 1) (by omega)) k2 (k + k2) (by omega) _ _ _ h3
  | exit id =>
    refine ⟨⟨k + 1, .exit id, st1, ?_, h2⟩⟩
    simp only [execD]
    rw [execD_mono (callD_mono k (k + 1) (by omega)) k k (by omega) _ _ _ h1]
  | ret =>
    refine ⟨⟨k + 1, .ret, st1, ?_, h2⟩⟩
    simp only [execD]
    rw [execD_mono (callD_mono k (k + 1) (by omega)) k k (by omega) _ _ _ h1]

theorem dwp_cond {c : Operand} {x y : Code} {st : DSt} {Q : DExit → DSt → Prop} {t : Bool} (hc : evalO st.env c = some (.bool t)) (ht : t = true → Dwp P X x st Q) (hf : t = false → Dwp P X y st Q) : Dwp P X (.cond c x y) st Q := by
  have : Dwp P X (if t then x else y) st Q := by cases t with
    | true => exact ht rfl
    | false => exact hf rfl
  obtain ⟨k, e, st', h1, h2⟩ := this.ex
  refine ⟨⟨k + 1, e, st', ?_, h2⟩⟩
  simp only [execD, hc]
  exact execD_mono (callD_mono k (k + 1) (by omega)) k k (by omega) _ _ _ h1

/-- What leaves a block. -/
def blockD (id : Nat) (Q : DExit → DSt → Prop) : DExit → DSt → Prop
  | .exit id', st => if id' = id then Q .normal st else Q (.exit id') st
  | e, st => Q e st

theorem dwp_block {id : Nat} {c : Code} {st : DSt} {Q : DExit → DSt → Prop} (h : Dwp P X c st (blockD id Q)) : Dwp P X (.block id c) st Q := by
  obtain ⟨k, e, st1, h1, h2⟩ := h.ex
  have h1' := execD_mono (callD_mono k (k + 1) (by omega)) k k (by omega) _ _ _ h1
  cases e with
  | normal => exact ⟨⟨k + 1, .normal, st1, by simp only [execD]; rw [h1'], h2⟩⟩
  | ret => exact ⟨⟨k + 1, .ret, st1, by simp only [execD]; rw [h1'], h2⟩⟩
  | exit id' =>
    simp only [blockD] at h2
    split at h2
    · rename_i hid
      exact ⟨⟨k + 1, .normal, st1, by simp only [execD]; rw [h1']; simp only [hid, if_true], h2⟩⟩
    · rename_i hid
      exact ⟨⟨k + 1, .exit id', st1, by simp only [execD]; rw [h1']; simp only [hid, if_false], h2⟩⟩

/-- A loop, with what holds ahead of each round and what each round lessens. -/
theorem dwp_loop {c : Code} {st : DSt} {Q : DExit → DSt → Prop} (I : DSt → Prop) (μ : DSt → Nat) (h0 : I st) (hstep : ∀ st, I st → Dwp P X c st (thenD (fun st' => I st' ∧ μ st' < μ st) Q)) : Dwp P X (.loop c) st Q := by
  have key : ∀ n st, μ st < n → I st → Dwp P X (.loop c) st Q := by
    intro n
    induction n with
    | zero => intro st h; omega
    | succ n ih =>
      intro st hn hI
      obtain ⟨k, e, st1, h1, h2⟩ := (hstep st hI).ex
      cases e with
      | normal =>
        obtain ⟨k2, e2, st2, h3, h4⟩ := (ih st1 (by have := h2.2; omega) h2.1).ex
        refine ⟨⟨k + k2 + 1, e2, st2, ?_, h4⟩⟩
        simp only [execD]
        rw [execD_mono (callD_mono k (k + k2 + 1) (by omega)) k (k + k2) (by omega) _ _ _ h1]
        exact execD_mono (callD_mono k2 (k + k2 + 1) (by omega)) k2 (k + k2) (by omega) _ _ _ h3
      | exit id =>
        refine ⟨⟨k + 1, .exit id, st1, ?_, h2⟩⟩
        simp only [execD]
        rw [execD_mono (callD_mono k (k + 1) (by omega)) k k (by omega) _ _ _ h1]
      | ret =>
        refine ⟨⟨k + 1, .ret, st1, ?_, h2⟩⟩
        simp only [execD]
        rw [execD_mono (callD_mono k (k + 1) (by omega)) k k (by omega) _ _ _ h1]
  exact key _ st (Nat.lt_succ_self _) h0

/-- One round of a loop, then the loop again. -/
theorem dwp_round {c : Code} {st : DSt} {Q : DExit → DSt → Prop} (h : Dwp P X c st (thenD (fun st' => Dwp P X (.loop c) st' Q) Q)) : Dwp P X (.loop c) st Q := by
  obtain ⟨k, e, st1, h1, h2⟩ := h.ex
  cases e with
  | normal =>
    obtain ⟨k2, e2, st2, h3, h4⟩ := h2.ex
    refine ⟨⟨k + k2 + 1, e2, st2, ?_, h4⟩⟩
    simp only [execD]
    rw [execD_mono (callD_mono k (k + k2 + 1) (by omega)) k (k + k2) (by omega) _ _ _ h1]
    exact execD_mono (callD_mono k2 (k + k2 + 1) (by omega)) k2 (k + k2) (by omega) _ _ _ h3
  | exit id =>
    refine ⟨⟨k + 1, .exit id, st1, ?_, h2⟩⟩
    simp only [execD]
    rw [execD_mono (callD_mono k (k + 1) (by omega)) k k (by omega) _ _ _ h1]
  | ret =>
    refine ⟨⟨k + 1, .ret, st1, ?_, h2⟩⟩
    simp only [execD]
    rw [execD_mono (callD_mono k (k + 1) (by omega)) k k (by omega) _ _ _ h1]

theorem dwp_region {id : Nat} {ops : Array Oper} {st : DSt} {Q : DExit → DSt → Prop} (h : OpsWp P X ops ops.toList st (fun st' => Q .normal st')) : Dwp P X (.region id ops false) st Q := by
  obtain ⟨k, st', h1, h2⟩ := h.ex
  refine ⟨⟨k + 1, .normal, st', ?_, h2⟩⟩
  simp only [execD]
  rw [runOps_mono (callD_mono k (k + 1) (by omega)) _ _ _ h1]
  rfl

theorem ops_nil {all : Array Oper} {st : DSt} {K : DSt → Prop} (h : K st) : OpsWp P X all [] st K := ⟨⟨0, st, rfl, h⟩⟩

/-- An operation, of no guard. -/
theorem ops_cons {all : Array Oper} {o : Oper} {r : List Oper} {st : DSt} {K : DSt → Prop} (hw : Region.wanted o (dyield all st.env) = true)
    (h : OpWp P X o st.env st.H (fun v H => OpsWp P X all r ⟨putD st.env o.dst v, H⟩ K)) : OpsWp P X all (o :: r) st K := by
  obtain ⟨k, v, H, h1, ⟨k2, st', h2, h3⟩⟩ := h.ex
  refine ⟨⟨k + k2, st', ?_, h3⟩⟩
  simp only [runOps, hw, if_true]
  rw [opD_mono (callD_mono k (k + k2) (by omega)) h1]
  exact runOps_mono (callD_mono k2 (k + k2) (by omega)) _ _ _ h2

/-- An operation that its guard leaves out. -/
theorem ops_off {all : Array Oper} {o : Oper} {r : List Oper} {st : DSt} {K : DSt → Prop} (hw : Region.wanted o (dyield all st.env) = false)
    (h : OpsWp P X all r ⟨putD st.env o.dst undefD, st.H⟩ K) : OpsWp P X all (o :: r) st K := by
  obtain ⟨k, st', h2, h3⟩ := h.ex
  refine ⟨⟨k, st', ?_, h3⟩⟩
  simp only [runOps, hw]
  exact h2

/-- An operation that is no call. -/
theorem op_at {o : Oper} {env : List DV} {H : DH} {K : DV → DH → Prop} {v : DV} {H' : DH} (h : opD P (fun _ _ _ => none) o env H = some (v, H')) (hk : K v H') : OpWp P X o env H K :=
  ⟨⟨0, v, H', by
    have := opD_mono (P := P) (cf := fun _ _ _ => none) (cf' := callD P X 0) (fun _ _ _ _ h => by cases h) h
    exact this, hk⟩⟩

/-- An operation of no guard. -/
theorem ops_plain {all : Array Oper} {o : Oper} {r : List Oper} {st : DSt} {K : DSt → Prop} (hg : o.guard = none)
    (h : OpWp P X o st.env st.H (fun v H => OpsWp P X all r ⟨putD st.env o.dst v, H⟩ K)) : OpsWp P X all (o :: r) st K :=
  ops_cons (by unfold Region.wanted; rw [hg]) h

theorem wanted_at {o : Oper} {y : Nat → Option Bool} {g : Nat} {w b : Bool} (hg : o.guard = some (g, w)) (hy : y g = some b) : Region.wanted o y = (b == w) := by
  unfold Region.wanted
  rw [hg]
  simp only [hy]
  cases b <;> cases w <;> rfl

theorem wanted_plain {o : Oper} {y : Nat → Option Bool} (hg : o.guard = none) : Region.wanted o y = true := by unfold Region.wanted; rw [hg]
theorem wanted_on {o : Oper} {y : Nat → Option Bool} {g : Nat} {w b : Bool} (hg : o.guard = some (g, w)) (hy : y g = some b) (hb : b = w) : Region.wanted o y = true := by rw [wanted_at hg hy, hb]; simp
theorem wanted_off1 {o : Oper} {y : Nat → Option Bool} {g : Nat} {b : Bool} (hg : o.guard = some (g, true)) (hy : y g = some b) (hb : b = false) : Region.wanted o y = false := by rw [wanted_at hg hy, hb]; rfl
theorem wanted_off0 {o : Oper} {y : Nat → Option Bool} {g : Nat} {b : Bool} (hg : o.guard = some (g, false)) (hy : y g = some b) (hb : b = true) : Region.wanted o y = false := by rw [wanted_at hg hy, hb]; rfl

theorem ops_on {all : Array Oper} {o : Oper} {r : List Oper} {st : DSt} {K : DSt → Prop} {g : Nat} {w b : Bool} (hg : o.guard = some (g, w)) (hy : dyield all st.env g = some b) (hb : b = w)
    (h : OpWp P X o st.env st.H (fun v H => OpsWp P X all r ⟨putD st.env o.dst v, H⟩ K)) : OpsWp P X all (o :: r) st K :=
  ops_cons (by rw [wanted_at hg hy, hb]; simp) h

theorem ops_off1 {all : Array Oper} {o : Oper} {r : List Oper} {st : DSt} {K : DSt → Prop} {g : Nat} {b : Bool} (hg : o.guard = some (g, true)) (hy : dyield all st.env g = some b) (hb : b = false)
    (h : OpsWp P X all r ⟨putD st.env o.dst undefD, st.H⟩ K) : OpsWp P X all (o :: r) st K :=
  ops_off (by rw [wanted_at hg hy, hb]; rfl) h

theorem ops_off0 {all : Array Oper} {o : Oper} {r : List Oper} {st : DSt} {K : DSt → Prop} {g : Nat} {b : Bool} (hg : o.guard = some (g, false)) (hy : dyield all st.env g = some b) (hb : b = true)
    (h : OpsWp P X all r ⟨putD st.env o.dst undefD, st.H⟩ K) : OpsWp P X all (o :: r) st K :=
  ops_off (by rw [wanted_at hg hy, hb]; rfl) h

theorem ops_split1 {all : Array Oper} {o : Oper} {r : List Oper} {st : DSt} {K : DSt → Prop} {g : Nat} {b : Bool} (hg : o.guard = some (g, true)) (hy : dyield all st.env g = some b)
    (ht : b = true → OpWp P X o st.env st.H (fun v H => OpsWp P X all r ⟨putD st.env o.dst v, H⟩ K)) (hf : b = false → OpsWp P X all r ⟨putD st.env o.dst undefD, st.H⟩ K) : OpsWp P X all (o :: r) st K := by
  cases b with
  | true => exact ops_on hg hy rfl (ht rfl)
  | false => exact ops_off1 hg hy rfl (hf rfl)

theorem ops_split0 {all : Array Oper} {o : Oper} {r : List Oper} {st : DSt} {K : DSt → Prop} {g : Nat} {b : Bool} (hg : o.guard = some (g, false)) (hy : dyield all st.env g = some b)
    (ht : b = false → OpWp P X o st.env st.H (fun v H => OpsWp P X all r ⟨putD st.env o.dst v, H⟩ K)) (hf : b = true → OpsWp P X all r ⟨putD st.env o.dst undefD, st.H⟩ K) : OpsWp P X all (o :: r) st K := by
  cases b with
  | false => exact ops_on hg hy rfl (ht rfl)
  | true => exact ops_off0 hg hy rfl (hf rfl)

/-- An operation whose guard is open. -/
theorem ops_guard {all : Array Oper} {o : Oper} {r : List Oper} {st : DSt} {K : DSt → Prop} {b : Bool} (hw : Region.wanted o (dyield all st.env) = b)
    (ht : b = true → OpWp P X o st.env st.H (fun v H => OpsWp P X all r ⟨putD st.env o.dst v, H⟩ K)) (hf : b = false → OpsWp P X all r ⟨putD st.env o.dst undefD, st.H⟩ K) : OpsWp P X all (o :: r) st K := by
  cases b with
  | true => exact ops_cons hw (ht rfl)
  | false => exact ops_off hw (hf rfl)

theorem op_pick {o : Oper} {c x y : Operand} (ho : o.op = .pick c x y) {env : List DV} {H : DH} {K : DV → DH → Prop} {b : Bool} (hc : evalO env c = some (.bool b)) (ht : b = true → ∃ v, evalO env x = some v ∧ K v H) (hf : b = false → ∃ v, evalO env y = some v ∧ K v H) : OpWp P X o env H K := by
  cases b with
  | true =>
    obtain ⟨v, h1, h2⟩ := ht rfl
    refine op_at (v := v) (H' := H) ?_ h2
    simp only [opD, ho, mover, reader, pureD, hc, h1]
    rfl
  | false =>
    obtain ⟨v, h1, h2⟩ := hf rfl
    refine op_at (v := v) (H' := H) ?_ h2
    simp only [opD, ho, mover, reader, pureD, hc, h1]
    rfl

theorem op_pick_t {o : Oper} {c x y : Operand} (ho : o.op = .pick c x y) {env : List DV} {H : DH} {K : DV → DH → Prop} {b : Bool} (hc : evalO env c = some (.bool b)) (hb : b = true) {v : DV} (hx : evalO env x = some v) (hk : K v H) : OpWp P X o env H K :=
  op_pick ho hc (fun _ => ⟨v, hx, hk⟩) (fun h => by rw [hb] at h; cases h)

theorem op_pick_f {o : Oper} {c x y : Operand} (ho : o.op = .pick c x y) {env : List DV} {H : DH} {K : DV → DH → Prop} {b : Bool} (hc : evalO env c = some (.bool b)) (hb : b = false) {v : DV} (hx : evalO env y = some v) (hk : K v H) : OpWp P X o env H K :=
  op_pick ho hc (fun h => by rw [hb] at h; cases h) (fun _ => ⟨v, hx, hk⟩)

theorem dwp_cond_t {c : Operand} {x y : Code} {st : DSt} {Q : DExit → DSt → Prop} {t : Bool} (hc : evalO st.env c = some (.bool t)) (ht : t = true) (h : Dwp P X x st Q) : Dwp P X (.cond c x y) st Q :=
  dwp_cond hc (fun _ => h) (fun hf => by rw [ht] at hf; cases hf)

theorem dwp_cond_f {c : Operand} {x y : Code} {st : DSt} {Q : DExit → DSt → Prop} {t : Bool} (hc : evalO st.env c = some (.bool t)) (ht : t = false) (h : Dwp P X y st Q) : Dwp P X (.cond c x y) st Q :=
  dwp_cond hc (fun hf => by rw [ht] at hf; cases hf) (fun _ => h)

/-- A call. -/
theorem op_call {o : Oper} {c : Call} (ho : o.op = .call c) (hc : isCall o.op = true) {env : List DV} {H : DH} {K : DV → DH → Prop} {f : FuncId} {args : List DV} (h : calleeD P (evalO env) c = some (f, args)) (hk : CallWp P X f args H K) : OpWp P X o env H K := by
  obtain ⟨k, r, H', h1, h2⟩ := hk.ex
  refine ⟨⟨k, r, H', ?_, h2⟩⟩
  unfold opD
  split
  · rename_i heq
    rw [ho] at heq
    cases heq
    rw [h]
    exact h1
  · rename_i heq
    rw [ho] at heq
    cases heq
    rw [h]
    exact h1
  · rename_i h3 h4
    exfalso
    rw [ho] at hc h3 h4
    obtain ⟨callee, as, ts⟩ := c
    cases callee with
    | value x => exact h3 _ _ _ rfl
    | invoke r n => exact h4 _ _ _ _ rfl
    | builtin b => simp [isCall] at hc

/-- What a call of a function's text comes to. -/
def retD (P : Program) (fn : Func) (K : DV → DH → Prop) : DExit → DSt → Prop
  | .normal, st | .ret, st => ∃ r, resultsD P fn st = some r ∧ K r st.H
  | _, _ => False

theorem call_text {f : FuncId} {fn : Func} {c : Code} (hx : X f = none) (hf : P.funcs[f]? = some fn) (hb : fn.body = some c) {args : List DV} {H : DH} {K : DV → DH → Prop}
    (h : Dwp P X c ⟨args ++ List.replicate (fn.ntmps - args.length) undefD, H⟩ (retD P fn K)) : CallWp P X f args H K := by
  obtain ⟨k, e, st, h1, h2⟩ := h.ex
  have h1' := execD_mono (callD_mono k k (by omega)) k (k + 1) (by omega) _ _ _ h1
  cases e with
  | exit id => exact h2.elim
  | normal =>
    obtain ⟨r, h3, h4⟩ := h2
    exact ⟨⟨k + 1, r, st.H, by simp only [callD, hx, hf, hb, h1', h3]; rfl, h4⟩⟩
  | ret =>
    obtain ⟨r, h3, h4⟩ := h2
    exact ⟨⟨k + 1, r, st.H, by simp only [callD, hx, hf, hb, h1', h3]; rfl, h4⟩⟩

/-- The results of a call. -/
def resOf (P : Program) (res : List ResultVar) (env : List DV) (H : DH) : Option DV :=
  match (res.map fun r => match r with
    | .tmp t => some (env.getD t undefD)
    | .cell a t => loadD P t H (env.getD a undefD)) with
  | [v] => v
  | vs => if vs.all Option.isSome then some (.tuple (vs.map fun v => v.getD undefD)) else none

def retR (P : Program) (res : List ResultVar) (K : DV → DH → Prop) : DExit → DSt → Prop
  | .normal, st | .ret, st => ∃ r, resOf P res st.env st.H = some r ∧ K r st.H
  | _, _ => False

/-- A function is entered. -/
theorem enter {f : FuncId} {fn : Func} {c : Code} {n : Nat} {res : Array ResultVar} (hx : X f = none) (hf : P.funcs[f]? = some fn) (hb : fn.body = some c) (hn : fn.ntmps = n) (hr : fn.results = res) {args : List DV} {H : DH} {K : DV → DH → Prop}
    (h : Dwp P X c ⟨args ++ List.replicate (n - args.length) undefD, H⟩ (retR P res.toList K)) : CallWp P X f args H K := by
  subst hn
  subst hr
  refine call_text hx hf hb (h.mono fun e st he => ?_)
  cases e <;> exact he

theorem call_table {f : FuncId} {g : List DV → DH → Option (DV × DH)} (hx : X f = some g) {args : List DV} {H H' : DH} {r : DV} {K : DV → DH → Prop} (h : g args H = some (r, H')) (hk : K r H') : CallWp P X f args H K :=
  ⟨⟨1, r, H', by simp only [callD, hx]; exact h, hk⟩⟩

/-! ### regions that draw their order -/
structure DrawWp (P : Program) (X : Ext) (all : Array Oper) (bef : Array Nat) (l : List Oper) (i : Nat) (seen : List Seen) (was : List Was) (st : DSt) (K : DSt → Prop) : Prop where
  ex : ∃ k st', runDraw P (callD P X k) all bef l i seen was st = some st' ∧ K st'

theorem dwp_draw {id : Nat} {ops : Array Oper} {st : DSt} {Q : DExit → DSt → Prop} (bef : Array Nat) (hbef : Region.before ops = bef) (h : DrawWp P X ops bef ops.toList 0 [] [] st (fun st' => Q .normal st')) : Dwp P X (.region id ops true) st Q := by
  subst hbef
  obtain ⟨k, st', h1, h2⟩ := h.ex
  refine ⟨⟨k + 1, .normal, st', ?_, h2⟩⟩
  simp only [execD]
  rw [runDraw_mono (callD_mono k (k + 1) (by omega)) _ _ _ _ _ _ h1]
  rfl

theorem draw_nil {all : Array Oper} {bef : Array Nat} {i : Nat} {seen : List Seen} {was : List Was} {st : DSt} {K : DSt → Prop} (h : K st) : DrawWp P X all bef [] i seen was st K := ⟨⟨0, st, rfl, h⟩⟩

theorem draw_off {all : Array Oper} {bef : Array Nat} {i : Nat} {seen : List Seen} {was : List Was} {o : Oper} {r : List Oper} {st : DSt} {K : DSt → Prop} (hw : Region.wanted o (dyield all st.env) = false)
    (h : DrawWp P X all bef r (i + 1) seen was ⟨putD st.env o.dst undefD, st.H⟩ K) : DrawWp P X all bef (o :: r) i seen was st K := by
  obtain ⟨k, st', h2, h3⟩ := h.ex
  refine ⟨⟨k, st', ?_, h3⟩⟩
  simp only [runDraw, hw]
  exact h2

theorem draw_pure {all : Array Oper} {bef : Array Nat} {i : Nat} {seen : List Seen} {was : List Was} {o : Oper} {r : List Oper} {st : DSt} {K : DSt → Prop} (hw : Region.wanted o (dyield all st.env) = true) (hm : mover P o.op = false) (hr : reader P o.op = false)
    (h : OpWp P X o st.env st.H (fun v H => DrawWp P X all bef r (i + 1) seen was ⟨putD st.env o.dst v, H⟩ K)) : DrawWp P X all bef (o :: r) i seen was st K := by
  obtain ⟨k, v, H, h1, ⟨k2, st', h2, h3⟩⟩ := h.ex
  refine ⟨⟨k + k2, st', ?_, h3⟩⟩
  simp only [runDraw, hw, if_true]
  rw [opD_mono (callD_mono k (k + k2) (by omega)) h1]
  simp only [hm, hr]
  exact runDraw_mono (callD_mono k2 (k + k2) (by omega)) _ _ _ _ _ _ h2

theorem draw_read {all : Array Oper} {bef : Array Nat} {i : Nat} {seen : List Seen} {was : List Was} {o : Oper} {r : List Oper} {st : DSt} {K : DSt → Prop} (hw : Region.wanted o (dyield all st.env) = true) (hm : mover P o.op = false) (hr : reader P o.op = true)
    (h : OpWp P X o st.env st.H (fun v H => stillWas P (bef.getD i 0) was ⟨i, o, st.env, v⟩ = true ∧ DrawWp P X all bef r (i + 1) (⟨i, o, st.env, v⟩ :: seen) was ⟨putD st.env o.dst v, H⟩ K)) : DrawWp P X all bef (o :: r) i seen was st K := by
  obtain ⟨k, v, H, h1, hs, ⟨k2, st', h2, h3⟩⟩ := h.ex
  refine ⟨⟨k + k2, st', ?_, h3⟩⟩
  simp only [runDraw, hw, if_true]
  rw [opD_mono (callD_mono k (k + k2) (by omega)) h1]
  simp only [hm, hr, hs, if_true]
  exact runDraw_mono (callD_mono k2 (k + k2) (by omega)) _ _ _ _ _ _ h2

theorem draw_move {all : Array Oper} {bef : Array Nat} {i : Nat} {seen : List Seen} {was : List Was} {o : Oper} {r : List Oper} {st : DSt} {K : DSt → Prop} (hw : Region.wanted o (dyield all st.env) = true) (hm : mover P o.op = true)
    (h : OpWp P X o st.env st.H (fun v H => stillAll P (bef.getD i 0) seen H = true ∧ DrawWp P X all bef r (i + 1) seen (⟨i, st.H⟩ :: was) ⟨putD st.env o.dst v, H⟩ K)) : DrawWp P X all bef (o :: r) i seen was st K := by
  obtain ⟨k, v, H, h1, hs, ⟨k2, st', h2, h3⟩⟩ := h.ex
  refine ⟨⟨k + k2, st', ?_, h3⟩⟩
  simp only [runDraw, hw, if_true]
  rw [opD_mono (callD_mono k (k + k2) (by omega)) h1]
  simp only [hm, hs, if_true]
  exact runDraw_mono (callD_mono k2 (k + k2) (by omega)) _ _ _ _ _ _ h2

end
end Go.Det
