/- A region that draws its order: whatever the order, it comes to what the text's order comes to. -/
import Derived.Test.YtphnddoneocfhaaD15
namespace Go.Det
set_option linter.unusedVariables false
set_option linter.unusedSimpArgs false

/-! ### what stands ahead of an operation -/
def befF (acc : Array Nat) (o : Oper) : Nat := o.after.foldl (fun s e => if Region.binds .any e then s ||| 2 ^ e.on ||| acc.getD e.on 0 else s) 0

theorem before_eq (ops : Array Oper) : Region.before ops = ops.toList.foldl (fun acc o => acc.push (befF acc o)) #[] := by
  unfold Region.before
  rw [← Array.foldl_toList]
  rfl

theorem befL_size : ∀ (l : List Oper) (acc : Array Nat), (l.foldl (fun acc o => acc.push (befF acc o)) acc).size = acc.size + l.length
  | [], acc => rfl
  | o :: l, acc => by rw [List.foldl_cons, befL_size l]; simp; omega

theorem befL_low : ∀ (l : List Oper) (acc : Array Nat) (k : Nat), k < acc.size → (l.foldl (fun acc o => acc.push (befF acc o)) acc)[k]? = acc[k]?
  | [], acc, k, _ => rfl
  | o :: l, acc, k, hk => by
    rw [List.foldl_cons, befL_low l _ k (by simp; omega), Array.getElem?_push, if_neg (by omega)]

theorem befL_at : ∀ (l : List Oper) (acc : Array Nat) (m : Nat) (o : Oper), l[m]? = some o → ∃ pre : Array Nat, pre.size = acc.size + m ∧ (l.foldl (fun acc o => acc.push (befF acc o)) acc)[acc.size + m]? = some (befF pre o) ∧
    ∀ k, k < pre.size → (l.foldl (fun acc o => acc.push (befF acc o)) acc)[k]? = pre[k]?
  | [], acc, m, o, h => by simp at h
  | q :: l, acc, m, o, h => by
    cases m with
    | zero =>
      simp at h
      subst h
      refine ⟨acc, rfl, ?_, fun k hk => ?_⟩
      · rw [List.foldl_cons, befL_low l _ _ (by simp), Nat.add_zero, Array.getElem?_push_size]
      · rw [List.foldl_cons, befL_low l _ k (by simp; omega), Array.getElem?_push, if_neg (by omega)]
    | succ m =>
      obtain ⟨pre, h1, h2, h3⟩ := befL_at l (acc.push (befF acc q)) m o (by simpa using h)
      simp only [Array.size_push] at h1 h2
      refine ⟨pre, by omega, ?_, ?_⟩
      · rw [List.foldl_cons, ← h2]; congr 1; omega
      · intro k hk; rw [List.foldl_cons]; exact h3 k hk

theorem fold_bit (acc : Array Nat) (i : Nat) : ∀ (es : List Edge) (s : Nat), (es.foldl (fun s e => if Region.binds .any e then s ||| 2 ^ e.on ||| acc.getD e.on 0 else s) s).testBit i = true →
    s.testBit i = true ∨ ∃ e ∈ es, Region.binds .any e = true ∧ (e.on = i ∨ (acc.getD e.on 0).testBit i = true)
  | [], s, h => .inl h
  | e :: es, s, h => by
    rw [List.foldl_cons] at h
    rcases fold_bit acc i es _ h with h | ⟨e', h1, h2⟩
    · split at h
      · rename_i hb
        rw [Nat.testBit_or, Nat.testBit_or, Bool.or_eq_true, Bool.or_eq_true] at h
        rcases h with (h | h) | h
        · exact .inl h
        · rw [Nat.testBit_two_pow] at h
          exact .inr ⟨e, by simp, hb, .inl (by simpa using h)⟩
        · exact .inr ⟨e, by simp, hb, .inr h⟩
      · exact .inl h
    · exact .inr ⟨e', by simp [h1], h2⟩

theorem before_bit {ops : Array Oper} {j i : Nat} {o : Oper} (ho : ops[j]? = some o) (h : ((Region.before ops).getD j 0).testBit i = true) : ∃ e ∈ o.after.toList, Region.binds .any e = true ∧ (e.on = i ∨ (e.on < j ∧ ((Region.before ops).getD e.on 0).testBit i = true)) := by
  obtain ⟨pre, h1, h2, h3⟩ := befL_at ops.toList #[] j o (by rw [Array.getElem?_toList]; exact ho)
  simp only [List.size_toArray, List.length_nil, Nat.zero_add] at h1 h2
  rw [← before_eq] at h2 h3
  rw [Array.getD_eq_getD_getElem?, h2, Option.getD_some] at h
  unfold befF at h
  rw [← Array.foldl_toList] at h
  rcases fold_bit pre i _ 0 h with h | ⟨e, he, hb, h⟩
  · simp at h
  · refine ⟨e, he, hb, ?_⟩
    rcases h with h | h
    · exact .inl h
    · right
      have hlt : e.on < pre.size := by
        rcases Nat.lt_or_ge e.on pre.size with h' | h'
        · exact h'
        · rw [Array.getD_eq_getD_getElem?, Array.getElem?_eq_none_iff.mpr h'] at h
          simp at h
      refine ⟨by omega, ?_⟩
      rw [Array.getD_eq_getD_getElem?, h3 _ hlt, ← Array.getD_eq_getD_getElem?]
      exact h

/-- What a region that draws its order must be like, for its text's order to tell all. -/
def drawOk (P : Program) (ops : Array Oper) : Bool :=
  (List.range ops.size).all fun j => match ops[j]? with
    | none => true
    | some y => y.after.toList.all (fun e => !Region.binds .any e || decide (e.on < j)) &&
      (List.range j).all fun i => match ops[i]? with
        | none => true
        | some x => ((Region.before ops).getD j 0).testBit i || (x.apart ops y && !(mover P x.op && mover P y.op))

structure DrawOk (P : Program) (ops : Array Oper) : Prop where
  edge : ∀ j y e, ops[j]? = some y → e ∈ y.after.toList → Region.binds .any e = true → e.on < j
  pair : ∀ i j x y, i < j → ops[i]? = some x → ops[j]? = some y → ((Region.before ops).getD j 0).testBit i = false → x.apart ops y = true ∧ (mover P x.op = true → mover P y.op = false)

theorem drawOk_spec {P : Program} {ops : Array Oper} (h : drawOk P ops = true) : DrawOk P ops := by
  unfold drawOk at h
  rw [List.all_eq_true] at h
  constructor
  · intro j y e hy he hb
    have hj : j < ops.size := (Array.getElem?_eq_some_iff.mp hy).1
    have := h j (List.mem_range.mpr hj)
    rw [hy] at this
    simp only [Bool.and_eq_true, List.all_eq_true] at this
    have := this.1 e he
    simpa [hb] using this
  · intro i j x y hij hx hy hbit
    have hj : j < ops.size := (Array.getElem?_eq_some_iff.mp hy).1
    have := h j (List.mem_range.mpr hj)
    rw [hy] at this
    simp only [Bool.and_eq_true] at this
    have := this.2
    rw [List.all_eq_true] at this
    have := this i (List.mem_range.mpr hij)
    rw [hx] at this
    simp only [hbit, Bool.false_or, Bool.and_eq_true, Bool.not_eq_true', Bool.and_eq_false_iff] at this
    refine ⟨this.1, fun hm => ?_⟩
    rcases this.2 with h' | h'
    · rw [hm] at h'; cases h'
    · exact h'

/-! ### slots, by which operations have been performed -/
section
variable {ops : Array Oper} {V : Nat → DV} {e0 : List DV}

def dstOf (ops : Array Oper) (k : Nat) : Option Tmp := (ops[k]?).bind (·.dst)

def envM (ops : Array Oper) (V : Nat → DV) (A : Nat → Bool) (l : List Nat) (e : List DV) : List DV := l.foldl (fun env k => if A k then putD env (dstOf ops k) (V k) else env) e

theorem putD_length (e : List DV) (d : Option Tmp) (v : DV) : (putD e d v).length = e.length := by cases d <;> simp [putD]

theorem envM_length (A : Nat → Bool) : ∀ (l : List Nat) (e : List DV), (envM ops V A l e).length = e.length
  | [], e => rfl
  | k :: l, e => by
    show (envM ops V A l _).length = _
    rw [envM_length A l]
    show (if A k = true then putD e (dstOf ops k) (V k) else e).length = e.length
    split
    · exact putD_length _ _ _
    · rfl

theorem putD_get (e : List DV) (d : Option Tmp) (v : DV) (t : Nat) (h : d ≠ some t) : (putD e d v)[t]? = e[t]? := by
  cases d with
  | none => rfl
  | some d => simp only [putD, List.getElem?_set]; rw [if_neg (fun e => h (by rw [e]))]

theorem envM_get {A B : Nat → Bool} {t : Nat} : ∀ (l : List Nat) (e f : List DV), e[t]? = f[t]? → (∀ k ∈ l, dstOf ops k = some t → A k = B k) → (envM ops V A l e)[t]? = (envM ops V B l f)[t]?
  | [], e, f, h, _ => h
  | k :: l, e, f, h, hk => by
    refine envM_get l _ _ ?_ (fun m hm => hk m (by simp [hm]))
    show (if A k = true then putD e (dstOf ops k) (V k) else e)[t]? = (if B k = true then putD f (dstOf ops k) (V k) else f)[t]?
    by_cases hd : dstOf ops k = some t
    · have := hk k (by simp) hd
      rw [this]
      split
      · rw [hd]
        simp only [putD, List.getElem?_set, if_true]
        have hl : ∀ (a b : List DV), a[t]? = b[t]? → (t < a.length ↔ t < b.length) := by
          intro a b hab
          rcases Nat.lt_or_ge t a.length with h1 | h1
          · rw [List.getElem?_eq_getElem h1] at hab
            have := (List.getElem?_eq_some_iff.mp hab.symm).1
            exact ⟨fun _ => this, fun _ => h1⟩
          · rw [List.getElem?_eq_none h1] at hab
            have := List.getElem?_eq_none_iff.mp hab.symm
            omega
        have := hl e f h
        by_cases h1 : t < e.length
        · rw [if_pos h1, if_pos (this.mp h1)]
        · rw [if_neg h1, if_neg (fun h2 => h1 (this.mpr h2))]
      · exact h
    · have h1 : ∀ (c : Bool) (x : List DV), (if c = true then putD x (dstOf ops k) (V k) else x)[t]? = x[t]? := by
        intro c x
        split
        · exact putD_get _ _ _ _ hd
        · rfl
      rw [h1, h1]
      exact h

theorem putD_comm (e : List DV) {a b : Option Tmp} (u v : DV) (h : ∀ t, a = some t → b ≠ some t) : putD (putD e a u) b v = putD (putD e b v) a u := by
  cases a with
  | none => rfl
  | some a => cases b with
    | none => rfl
    | some b => simp only [putD]; exact List.set_comm _ _ (fun e => h a rfl (by rw [e]))

theorem envM_putD {A : Nat → Bool} (d : Option Tmp) (v : DV) : ∀ (l : List Nat) (e : List DV), (∀ k ∈ l, A k = true → ∀ t, d = some t → dstOf ops k ≠ some t) → envM ops V A l (putD e d v) = putD (envM ops V A l e) d v
  | [], e, _ => rfl
  | k :: l, e, h => by
    show envM ops V A l (if A k then putD (putD e d v) (dstOf ops k) (V k) else putD e d v) = putD (envM ops V A l (if A k then putD e (dstOf ops k) (V k) else e)) d v
    by_cases ha : A k = true
    · rw [if_pos ha, if_pos ha, putD_comm e v (V k) (h k (by simp) ha)]
      exact envM_putD d v l _ fun m hm => h m (by simp [hm])
    · rw [if_neg ha, if_neg ha]
      exact envM_putD d v l _ fun m hm => h m (by simp [hm])

theorem envM_congr {A B : Nat → Bool} : ∀ (l : List Nat) (e : List DV), (∀ k ∈ l, A k = B k) → envM ops V A l e = envM ops V B l e
  | [], e, _ => rfl
  | k :: l, e, h => by
    show envM ops V A l (if A k then _ else _) = envM ops V B l (if B k then _ else _)
    rw [h k (by simp)]
    exact envM_congr l _ fun m hm => h m (by simp [hm])

/-- One more is performed. -/
theorem envM_add {A B : Nat → Bool} {j n : Nat} (hj : j < n) (hA : A j = false) (hB : ∀ k, B k = (A k || decide (k = j))) (hlater : ∀ k, j < k → k < n → A k = true → ∀ t, dstOf ops j = some t → dstOf ops k ≠ some t) (e : List DV) :
    envM ops V B (List.range n) e = putD (envM ops V A (List.range n) e) (dstOf ops j) (V j) := by
  have hr : List.range n = List.range j ++ j :: List.range' (j + 1) (n - j - 1) := by
    rw [List.range_eq_range', List.range_eq_range']
    have h1 : n = j + (n - j) := by omega
    conv => lhs; rw [h1]
    rw [← List.range'_append_1]
    congr 1
    have : n - j = (n - j - 1) + 1 := by omega
    rw [this, List.range'_succ]
    simp
  rw [hr]
  unfold envM
  rw [List.foldl_append, List.foldl_append, List.foldl_cons, List.foldl_cons]
  have h1 := envM_congr (ops := ops) (V := V) (A := B) (B := A) (List.range j) e (fun k hk => by rw [hB]; have := List.mem_range.mp hk; simp; omega)
  unfold envM at h1
  rw [h1, hA, hB, hA]
  simp only [Bool.false_or, decide_true, if_true, Bool.false_eq_true, if_false]
  have h2 := envM_congr (ops := ops) (V := V) (A := B) (B := A) (List.range' (j + 1) (n - j - 1)) (putD (List.foldl (fun env k => if A k = true then putD env (dstOf ops k) (V k) else env) e (List.range j)) (dstOf ops j) (V j)) (fun k hk => by rw [hB]; have := List.mem_range'.mp hk; simp; omega)
  unfold envM at h2
  rw [h2]
  have h3 := envM_putD (ops := ops) (V := V) (A := A) (dstOf ops j) (V j) (List.range' (j + 1) (n - j - 1)) (List.foldl (fun env k => if A k = true then putD env (dstOf ops k) (V k) else env) e (List.range j)) (fun k hk ha t ht => by
    have := List.mem_range'.mp hk
    exact hlater k (by omega) (by omega) ha t ht)
  exact h3
end

end Go.Det
