/- A region that draws its order: whatever the order, it comes to what the text's order comes to. First: what the reading of a region in the text's order leaves. -/
import Derived.Test.YtphnddoneocfhaaD13
namespace Go.Det
set_option linter.unusedVariables false
set_option linter.unusedSimpArgs false

mutual
theorem DV.beq_eq : ∀ (a b : DV), DV.beq a b = true → a = b
  | .bool a, b, h => by cases b <;> simp_all [DV.beq]
  | .int _ _, b, h => by cases b <;> simp_all [DV.beq]
  | .str _, b, h => by cases b <;> simp_all [DV.beq]
  | .ptr _, b, h => by cases b <;> simp_all [DV.beq]
  | .sl _ _ _ _, b, h => by cases b <;> simp_all [DV.beq]
  | .map _, b, h => by cases b <;> simp_all [DV.beq]
  | .nilFunc, b, h => by cases b <;> simp_all [DV.beq]
  | .nilIface, b, h => by cases b <;> simp_all [DV.beq]
  | .iface t v, b, h => by
    cases b <;> simp only [DV.beq, Bool.and_eq_true, beq_iff_eq, Bool.false_eq_true] at h
    rw [h.1, DV.beq_eq _ _ h.2]
  | .agg a, b, h => by
    cases b <;> simp only [DV.beq, Bool.false_eq_true] at h
    rw [DV.beqs_eq _ _ h]
  | .tuple a, b, h => by
    cases b <;> simp only [DV.beq, Bool.false_eq_true] at h
    rw [DV.beqs_eq _ _ h]
  | .func f a c, b, h => by
    cases b <;> simp only [DV.beq, Bool.and_eq_true, decide_eq_true_eq, Bool.false_eq_true] at h
    rw [h.1.1, DV.beqs_eq _ _ h.1.2, DV.beqs_eq _ _ h.2]
theorem DV.beqs_eq : ∀ (a b : List DV), DV.beqs a b = true → a = b
  | [], b, h => by cases b <;> simp_all [DV.beqs]
  | x :: a, b, h => by
    cases b with
    | nil => simp [DV.beqs] at h
    | cons y b =>
      simp only [DV.beqs, Bool.and_eq_true] at h
      rw [DV.beq_eq _ _ h.1, DV.beqs_eq _ _ h.2]
end

section
variable {P : Program} {cf : CallF} {ops : Array Oper} {bef : Array Nat}

/-- Is operation i performed, where the text's order comes to it? -/
def Trace.on (ops : Array Oper) (E : Nat → List DV) (i : Nat) (o : Oper) : Prop := Region.wanted o (dyield ops (E i)) = true

/-- What a region read in the text's order leaves: slots, heaps and values, operation by operation, from number i on. -/
structure Trace (P : Program) (cf : CallF) (ops : Array Oper) (bef : Array Nat) (i : Nat) (E : Nat → List DV) (HH : Nat → DH) (V : Nat → DV) : Prop where
  op : ∀ j o, i ≤ j → ops[j]? = some o → Trace.on ops E j o → opD P cf o (E j) (HH j) = some (V j, HH (j + 1))
  off : ∀ j o, i ≤ j → ops[j]? = some o → ¬ Trace.on ops E j o → V j = undefD ∧ HH (j + 1) = HH j
  env : ∀ j o, i ≤ j → ops[j]? = some o → E (j + 1) = putD (E j) o.dst (V j)
  later : ∀ j o k q, i ≤ j → j < k → ops[j]? = some o → ops[k]? = some q → Trace.on ops E j o → Trace.on ops E k q → mover P o.op = false → reader P o.op = true → mover P q.op = true → (bef.getD k 0).testBit j = false → readD P o (evalO (E j)) (HH (k + 1)) = some (V j)
  sooner : ∀ j o k q, i ≤ k → k < j → ops[j]? = some o → ops[k]? = some q → Trace.on ops E j o → Trace.on ops E k q → mover P o.op = false → reader P o.op = true → mover P q.op = true → (bef.getD j 0).testBit k = false → readD P o (evalO (E j)) (HH k) = some (V j)

theorem Seen.still_eq {s : Seen} {H : DH} (h : s.still P H = true) : readD P s.o (evalO s.env) H = some s.v := by
  unfold Seen.still at h
  split at h
  · rename_i v hv
    rw [DV.beq_eq _ _ h] at hv
    exact hv
  · cases h

theorem trace_of {st' : DSt} : ∀ (l : List Oper) (i : Nat) (seen : List Seen) (was : List Was) (st : DSt), ops.toList.drop i = l → runDraw P cf ops bef l i seen was st = some st' →
    ∃ E HH V, Trace P cf ops bef i E HH V ∧ E i = st.env ∧ HH i = st.H ∧ E ops.size = (if i ≤ ops.size then st'.env else E ops.size) ∧ HH ops.size = (if i ≤ ops.size then st'.H else HH ops.size) ∧
      (∀ s ∈ seen, ∀ k q, i ≤ k → ops[k]? = some q → Trace.on ops E k q → mover P q.op = true → (bef.getD k 0).testBit s.i = false → readD P s.o (evalO s.env) (HH (k + 1)) = some s.v) ∧
      (∀ w ∈ was, ∀ j o, i ≤ j → ops[j]? = some o → Trace.on ops E j o → mover P o.op = false → reader P o.op = true → (bef.getD j 0).testBit w.i = false → readD P o (evalO (E j)) w.H = some (V j))
  | [], i, seen, was, st, hl, h => by
    have hge : ops.size ≤ i := by
      have := List.drop_eq_nil_iff.mp hl
      simpa using this
    have hno : ∀ j, i ≤ j → ops[j]? = none := fun j hj => Array.getElem?_eq_none_iff.mpr (by omega)
    simp only [runDraw] at h
    obtain rfl : st' = st := by simpa using h.symm
    refine ⟨fun _ => st'.env, fun _ => st'.H, fun _ => undefD, ⟨?_, ?_, ?_, ?_, ?_⟩, rfl, rfl, by split <;> rfl, by split <;> rfl, ?_, ?_⟩
    · intro j o hj ho; rw [hno j hj] at ho; cases ho
    · intro j o hj ho; rw [hno j hj] at ho; cases ho
    · intro j o hj ho; rw [hno j hj] at ho; cases ho
    · intro j o k q hj hk ho; rw [hno j hj] at ho; cases ho
    · intro j o k q hk hj ho hq; rw [hno k hk] at hq; cases hq
    · intro s hs k q hk hq; rw [hno k hk] at hq; cases hq
    · intro w hw j o hj ho; rw [hno j hj] at ho; cases ho
  | o :: r, i, seen, was, st, hl, h => by
    have hlt : i < ops.toList.length := by
      rcases Nat.lt_or_ge i ops.toList.length with h | h
      · exact h
      · rw [List.drop_eq_nil_of_le h] at hl; cases hl
    have hcons := List.drop_eq_getElem_cons hlt
    rw [hl] at hcons
    injection hcons with ho hr
    have hoi : ops[i]? = some o := by rw [← Array.getElem?_toList, List.getElem?_eq_getElem hlt, ho]
    have hsz : i < ops.size := by simpa using hlt
    -- one step, with what it added to what was seen and to the heaps that were
    have step : ∀ (v : DV) (H1 : DH) (seen' : List Seen) (was' : List Was), runDraw P cf ops bef r (i + 1) seen' was' ⟨putD st.env o.dst v, H1⟩ = some st' →
        (∀ s ∈ seen, s ∈ seen') → (∀ w ∈ was, w ∈ was') →
        (Region.wanted o (dyield ops st.env) = true → opD P cf o st.env st.H = some (v, H1)) → (¬ Region.wanted o (dyield ops st.env) = true → v = undefD ∧ H1 = st.H) →
        (Region.wanted o (dyield ops st.env) = true → mover P o.op = true → (∀ s ∈ seen, (bef.getD i 0).testBit s.i = false → readD P s.o (evalO s.env) H1 = some s.v) ∧ ⟨i, st.H⟩ ∈ was') →
        (Region.wanted o (dyield ops st.env) = true → mover P o.op = false → reader P o.op = true → (∀ w ∈ was, (bef.getD i 0).testBit w.i = false → readD P o (evalO st.env) w.H = some v) ∧ ⟨i, o, st.env, v⟩ ∈ seen') →
        ∃ E HH V, Trace P cf ops bef i E HH V ∧ E i = st.env ∧ HH i = st.H ∧ E ops.size = (if i ≤ ops.size then st'.env else E ops.size) ∧ HH ops.size = (if i ≤ ops.size then st'.H else HH ops.size) ∧
          (∀ s ∈ seen, ∀ k q, i ≤ k → ops[k]? = some q → Trace.on ops E k q → mover P q.op = true → (bef.getD k 0).testBit s.i = false → readD P s.o (evalO s.env) (HH (k + 1)) = some s.v) ∧
          (∀ w ∈ was, ∀ j o, i ≤ j → ops[j]? = some o → Trace.on ops E j o → mover P o.op = false → reader P o.op = true → (bef.getD j 0).testBit w.i = false → readD P o (evalO (E j)) w.H = some (V j)) := by
      intro v H1 seen' was' hrun hs' hw' hon hoff hmov hread
      obtain ⟨E, HH, V, ht, he, hh, hen, hhn, hseen, hwas⟩ := trace_of r (i + 1) seen' was' _ hr.symm hrun
      simp only at he hh
      let E' : Nat → List DV := fun k => if k = i then st.env else E k
      let H' : Nat → DH := fun k => if k = i then st.H else HH k
      let V' : Nat → DV := fun k => if k = i then v else V k
      have E'i : E' i = st.env := by simp [E']
      have H'i : H' i = st.H := by simp [H']
      have V'i : V' i = v := by simp [V']
      have E'n : ∀ k, i < k → E' k = E k := fun k hk => by simp only [E']; rw [if_neg (by omega)]
      have H'n : ∀ k, i < k → H' k = HH k := fun k hk => by simp only [H']; rw [if_neg (by omega)]
      have V'n : ∀ k, i < k → V' k = V k := fun k hk => by simp only [V']; rw [if_neg (by omega)]
      have oni : ∀ q, Trace.on ops E' i q ↔ Region.wanted q (dyield ops st.env) = true := fun q => by unfold Trace.on; rw [E'i]
      have onn : ∀ k q, i < k → (Trace.on ops E' k q ↔ Trace.on ops E k q) := fun k q hk => by unfold Trace.on; rw [E'n k hk]
      refine ⟨E', H', V', ⟨?_, ?_, ?_, ?_, ?_⟩, E'i, H'i, ?_, ?_, ?_, ?_⟩
      · intro j q hj hq hw
        by_cases e : j = i
        · subst e
          rw [hoi] at hq; cases hq
          rw [E'i, H'i, V'i, H'n _ (by omega), hh]
          exact hon ((oni _).mp hw)
        · rw [E'n j (by omega), H'n j (by omega), V'n j (by omega), H'n _ (by omega)]
          exact ht.op j q (by omega) hq ((onn j q (by omega)).mp hw)
      · intro j q hj hq hw
        by_cases e : j = i
        · subst e
          rw [hoi] at hq; cases hq
          rw [V'i, H'i, H'n _ (by omega), hh]
          exact hoff (fun hc => hw ((oni _).mpr hc))
        · rw [V'n j (by omega), H'n j (by omega), H'n _ (by omega)]
          exact ht.off j q (by omega) hq (fun hc => hw ((onn j q (by omega)).mpr hc))
      · intro j q hj hq
        by_cases e : j = i
        · subst e
          rw [hoi] at hq; cases hq
          rw [E'i, V'i, E'n _ (by omega), he]
        · rw [E'n j (by omega), V'n j (by omega), E'n _ (by omega)]
          exact ht.env j q (by omega) hq
      · intro j q k p hj hk hq hp hwq hwp hm hrd hmp hbit
        by_cases e : j = i
        · subst e
          rw [hoi] at hq; cases hq
          rw [E'i, V'i, H'n _ (by omega)]
          have := (hread ((oni _).mp hwq) hm hrd).2
          exact hseen _ this k p (by omega) hp ((onn k p (by omega)).mp hwp) hmp hbit
        · rw [E'n j (by omega), V'n j (by omega), H'n _ (by omega)]
          exact ht.later j q k p (by omega) hk hq hp ((onn j q (by omega)).mp hwq) ((onn k p (by omega)).mp hwp) hm hrd hmp hbit
      · intro j q k p hk hj hq hp hwq hwp hm hrd hmp hbit
        by_cases e : k = i
        · subst e
          rw [hoi] at hp; cases hp
          rw [E'n j (by omega), V'n j (by omega), H'i]
          have := (hmov ((oni _).mp hwp) hmp).2
          exact hwas _ this j q (by omega) hq ((onn j q (by omega)).mp hwq) hm hrd hbit
        · rw [E'n j (by omega), V'n j (by omega), H'n k (by omega)]
          exact ht.sooner j q k p (by omega) hj hq hp ((onn j q (by omega)).mp hwq) ((onn k p (by omega)).mp hwp) hm hrd hmp hbit
      · rw [if_pos (by omega), E'n _ hsz, hen, if_pos (by omega)]
      · rw [if_pos (by omega), H'n _ hsz, hhn, if_pos (by omega)]
      · intro s hs k q hk hq hw hm hbit
        by_cases e : k = i
        · subst e
          rw [hoi] at hq; cases hq
          rw [H'n _ (by omega), hh]
          exact (hmov ((oni _).mp hw) hm).1 s hs hbit
        · rw [H'n _ (by omega)]
          exact hseen s (hs' s hs) k q (by omega) hq ((onn k q (by omega)).mp hw) hm hbit
      · intro w hw j q hj hq hwq hm hrd hbit
        by_cases e : j = i
        · subst e
          rw [hoi] at hq; cases hq
          rw [E'i, V'i]
          exact (hread ((oni _).mp hwq) hm hrd).1 w hw hbit
        · rw [E'n j (by omega), V'n j (by omega)]
          exact hwas w (hw' w hw) j q (by omega) hq ((onn j q (by omega)).mp hwq) hm hrd hbit
    simp only [runDraw] at h
    split at h
    · rename_i hw
      split at h
      · rename_i v H1 hop
        split at h
        · rename_i hm
          split at h
          · rename_i hst
            refine step v H1 _ _ h (fun s hs => hs) (fun w hw => List.mem_cons_of_mem _ hw) (fun _ => hop) (fun hc => absurd hw hc) (fun _ _ => ⟨fun s hs hb => ?_, List.mem_cons_self⟩) (fun _ hm' => by rw [hm] at hm'; cases hm')
            unfold stillAll at hst
            rw [List.all_eq_true] at hst
            have := hst s hs
            rw [hb, Bool.false_or] at this
            exact Seen.still_eq this
          · cases h
        · rename_i hm
          split at h
          · rename_i hrd
            split at h
            · rename_i hst
              refine step v H1 _ _ h (fun s hs => List.mem_cons_of_mem _ hs) (fun w hw => hw) (fun _ => hop) (fun hc => absurd hw hc) (fun _ hm' => absurd hm' hm) (fun _ _ _ => ⟨fun w hw' hb => ?_, List.mem_cons_self⟩)
              unfold stillWas at hst
              rw [List.all_eq_true] at hst
              have := hst w hw'
              rw [hb, Bool.false_or] at this
              exact Seen.still_eq this
            · cases h
          · rename_i hrd
            exact step v H1 _ _ h (fun s hs => hs) (fun w hw => hw) (fun _ => hop) (fun hc => absurd hw hc) (fun _ hm' => absurd hm' hm) (fun _ _ hrd' => absurd hrd' hrd)
      · cases h
    · rename_i hw
      exact step undefD st.H _ _ h (fun s hs => hs) (fun w hw => hw) (fun hc => absurd hc hw) (fun _ => ⟨rfl, rfl⟩) (fun hc => absurd hc hw) (fun hc => absurd hc hw)

theorem opD_stays {o : Oper} {env : List DV} {H H' : DH} {v : DV} (h : opD P cf o env H = some (v, H')) (hm : mover P o.op = false) : H' = H ∧ (reader P o.op = true → readD P o (evalO env) H = some v) ∧ (reader P o.op = false → pureD P o (evalO env) = some v) := by
  unfold opD at h
  split at h
  · rename_i hop; rw [hop] at hm; simp [mover] at hm
  · rename_i hop; rw [hop] at hm; simp [mover] at hm
  · rw [if_neg (by rw [hm]; simp)] at h
    split at h
    · rename_i hr
      cases hrd : readD P o (evalO env) H with
      | none => rw [hrd] at h; cases h
      | some x => rw [hrd] at h; cases h; exact ⟨rfl, fun _ => rfl, fun hc => by rw [hr] at hc; cases hc⟩
    · rename_i hr
      cases hrd : pureD P o (evalO env) with
      | none => rw [hrd] at h; cases h
      | some x => rw [hrd] at h; cases h; exact ⟨rfl, fun hc => absurd hc hr, fun _ => rfl⟩
end
end Go.Det
