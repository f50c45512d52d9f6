/- A region that draws its order: whatever the order, it comes to what the text's order comes to. -/
import Derived.Test.YtphnddoneocfhaaD16
namespace Go.Det
set_option linter.unusedVariables false
set_option linter.unusedSimpArgs false

theorem filter_lt {p q : Nat → Bool} {j : Nat} (hpq : ∀ k, q k = true → p k = true) (hp : p j = true) (hq : q j = false) : ∀ (l : List Nat), j ∈ l → (l.filter q).length < (l.filter p).length
  | [], h => by cases h
  | k :: l, h => by
    have hle : ∀ (l : List Nat), (l.filter q).length ≤ (l.filter p).length := by
      intro l
      induction l with
      | nil => exact Nat.le_refl _
      | cons k l ih =>
        simp only [List.filter_cons]
        by_cases h1 : q k = true
        · rw [if_pos h1, if_pos (hpq k h1)]; simpa using ih
        · rw [if_neg h1]
          split
          · simp only [List.length_cons]; omega
          · exact ih
    simp only [List.filter_cons]
    rcases List.mem_cons.mp h with rfl | h
    · rw [if_neg (by rw [hq]; simp), if_pos hp]
      have := hle l
      simp only [List.length_cons]; omega
    · have := filter_lt hpq hp hq l h
      by_cases h1 : q k = true
      · rw [if_pos h1, if_pos (hpq k h1)]; simpa using this
      · rw [if_neg h1]
        split
        · simp only [List.length_cons]; omega
        · exact this

section
variable {P : Program} {ρ : Rho}

theorem opD_read {cf : CallF} {o : Oper} {env : List DV} {H : DH} {v : DV} (hm : mover P o.op = false) (hr : reader P o.op = true) (h : readD P o (evalO env) H = some v) : opD P cf o env H = some (v, H) := by
  unfold opD
  split
  · rename_i hop; rw [hop] at hm; simp [mover] at hm
  · rename_i hop; rw [hop] at hm; simp [mover] at hm
  · rw [if_neg (by rw [hm]; simp), if_pos hr, h]; rfl

theorem opD_pure {cf : CallF} {o : Oper} {env : List DV} {H : DH} {v : DV} (hm : mover P o.op = false) (hr : reader P o.op = false) (h : pureD P o (evalO env) = some v) : opD P cf o env H = some (v, H) := by
  unfold opD
  split
  · rename_i hop; rw [hop] at hm; simp [mover] at hm
  · rename_i hop; rw [hop] at hm; simp [mover] at hm
  · rw [if_neg (by rw [hm]; simp), if_neg (by rw [hr]; simp), h]; rfl

theorem getD_of {e f : List DV} {t : Nat} (h : e[t]? = f[t]?) : e.getD t undefD = f.getD t undefD := by simp [List.getD, h]

/-- What holds where some operations have been performed. -/
structure DrawInv (P : Program) (ops : Array Oper) (E : Nat → List DV) (HH : Nat → DH) (V : Nat → DV) (ρ : Rho) (w : World) (fuel : Nat) (L : Nat → Bool) (a : Act) (ρ1 : Rho) (w1 : World) (m : Nat) : Prop where
  out : ∀ k, ops.size ≤ k → L k = false
  down : ∀ k o e, ops[k]? = some o → L k = true → e ∈ o.after.toList → Region.binds .any e = true → L e.on = true
  cnt : ((List.range ops.size).filter fun k => !L k).length ≤ fuel
  env : EnvR ρ1 (envM ops V L (List.range ops.size) (E 0)) a.tmps
  defers : a.defers = []
  le : m ≤ ops.size
  mov : ∀ k o, ops[k]? = some o → Trace.on ops E k o → mover P o.op = true → (L k = true ↔ k < m)
  heap : Moves ρ (HH 0) w ρ1 (HH m) w1

theorem draw_any {cf : CallF} (hcf : CFSound P cf) {ops : Array Oper} (hok : DrawOk P ops) {E : Nat → List DV} {HH : Nat → DH} {V : Nat → DV} (ht : Trace P cf ops (Region.before ops) 0 E HH V) {Q : Exit → Act → World → Prop} {w : World}
    (hq : ∀ ρ' a' w', EnvR ρ' (E ops.size) a'.tmps → a'.defers = [] → Moves ρ (HH 0) w ρ' (HH ops.size) w' → Q .normal a' w') :
    ∀ (fuel : Nat) (listed : Array Bool) (a : Act) (ρ1 : Rho) (w1 : World) (m : Nat), listed.size = ops.size → DrawInv P ops E HH V ρ w fuel (fun k => listed.getD k false) a ρ1 w1 m → wpAny P .any ops Q fuel listed a w1 := by
  -- the slots ahead of operation j
  have hE : ∀ j, j ≤ ops.size → E j = envM ops V (fun k => decide (k < j)) (List.range ops.size) (E 0) := by
    intro j
    induction j with
    | zero =>
      intro _
      have : ∀ (l : List Nat) (e : List DV), envM ops V (fun k => decide (k < 0)) l e = e := by
        intro l
        induction l with
        | nil => intro e; rfl
        | cons k l ih => intro e; exact ih e
      rw [this]
    | succ j ih =>
      intro hj
      obtain ⟨o, ho⟩ : ∃ o, ops[j]? = some o := ⟨ops[j], Array.getElem?_eq_getElem (by omega)⟩
      rw [ht.env j o (by omega) ho, ih (by omega)]
      have := envM_add (ops := ops) (V := V) (A := fun k => decide (k < j)) (B := fun k => decide (k < j + 1)) (j := j) (n := ops.size) (by omega) (by simp) (fun k => by
        by_cases h : k < j
        · simp [h]; omega
        · by_cases h2 : k = j
          · simp [h2]
          · simp [h, h2]; omega) (fun k hk _ ha => by simp at ha; omega) (E 0)
      rw [this]
      simp [dstOf, ho]
  -- heaps that no operation stands between
  have hH : ∀ d i, i + d ≤ ops.size → (∀ k o, i ≤ k → k < i + d → ops[k]? = some o → Trace.on ops E k o → mover P o.op = false) → HH (i + d) = HH i := by
    intro d
    induction d with
    | zero => intro i _ _; rfl
    | succ d ih =>
      intro i hi hno
      obtain ⟨o, ho⟩ : ∃ o, ops[i + d]? = some o := ⟨ops[i + d], Array.getElem?_eq_getElem (by omega)⟩
      have h1 : HH (i + d + 1) = HH (i + d) := by
        by_cases hon : Trace.on ops E (i + d) o
        · exact (opD_stays (ht.op _ o (by omega) ho hon) (hno _ o (by omega) (by omega) ho hon)).1
        · exact (ht.off _ o (by omega) ho hon).2
      show HH (i + d + 1) = HH i
      rw [h1]
      exact ih i (by omega) fun k o hk1 hk2 => hno k o hk1 (by omega)
  intro fuel
  induction fuel with
  | zero =>
    intro listed a ρ1 w1 m hsz inv
    have hall : ∀ k, k < ops.size → listed.getD k false = true := by
      intro k hk
      rcases hb : listed.getD k false with _ | _
      · exfalso
        have hmem : k ∈ (List.range ops.size).filter fun k => !listed.getD k false := by simp [hk]; simpa using hb
        have := inv.cnt
        have h0 := List.length_eq_zero_iff.mp (Nat.le_zero.mp this)
        rw [h0] at hmem
        cases hmem
      · rfl
    have hr : Region.ready .any ops listed = [] := by
      unfold Region.ready
      rw [List.filter_eq_nil_iff]
      intro k hk
      have hk' := List.mem_range.mp hk
      have := hall k hk'
      have h2 : listed.getD k true = true := by
        rw [Array.getD_eq_getD_getElem?] at this ⊢
        rw [Array.getElem?_eq_getElem (by omega)] at this ⊢
        exact this
      simp [h2]
    refine ⟨hr, ?_⟩
    have hmask : envM ops V (fun k => listed.getD k false) (List.range ops.size) (E 0) = E ops.size := by
      rw [hE ops.size (Nat.le_refl _)]
      exact envM_congr _ _ fun k hk => by have := List.mem_range.mp hk; rw [hall k this]; simp [this]
    have hHn : HH ops.size = HH m := by
      have := hH (ops.size - m) m (by have := inv.le; omega) (fun k o hk1 hk2 ho hon => by
        rcases hb : mover P o.op with _ | _
        · rfl
        · have hk3 : k < ops.size := (Array.getElem?_eq_some_iff.mp ho).1
          have := (inv.mov k o ho hon hb).mp (hall k hk3)
          omega)
      rwa [show m + (ops.size - m) = ops.size by have := inv.le; omega] at this
    refine hq ρ1 a w1 ?_ inv.defers ?_
    · have := inv.env; rw [hmask] at this; exact this
    · rw [hHn]; exact inv.heap
  | succ fuel ih =>
    intro listed a ρ1 w1 m hsz inv
    constructor
    · -- none is ready: all have been performed
      intro hr
      have hall : ∀ k, k < ops.size → listed.getD k false = true := by
        intro k
        induction k using Nat.strongRecOn with
        | _ k ihk =>
          intro hk
          rcases hb : listed.getD k false with _ | _
          · exfalso
            obtain ⟨o, ho⟩ : ∃ o, ops[k]? = some o := ⟨ops[k], Array.getElem?_eq_getElem hk⟩
            unfold Region.ready at hr
            rw [List.filter_eq_nil_iff] at hr
            have := hr k (List.mem_range.mpr hk)
            apply this
            have h2 : listed.getD k true = false := by
              rw [Array.getD_eq_getD_getElem?] at hb ⊢
              rw [Array.getElem?_eq_getElem (by omega)] at hb ⊢
              exact hb
            rw [h2, ho]
            simp only [Bool.not_false, Bool.true_and, Option.map_some, Option.getD_some]
            rw [← Array.all_toList, List.all_eq_true]
            intro e he
            rcases hbe : Region.binds .any e with _ | _
            · rfl
            · have hlt := hok.edge k o e ho he hbe
              simp only [Bool.not_true, Bool.false_or]
              exact ihk e.on hlt (by omega)
          · rfl
      have hmask : envM ops V (fun k => listed.getD k false) (List.range ops.size) (E 0) = E ops.size := by
        rw [hE ops.size (Nat.le_refl _)]
        exact envM_congr _ _ fun k hk => by have := List.mem_range.mp hk; rw [hall k this]; simp [this]
      have hHn : HH ops.size = HH m := by
        have := hH (ops.size - m) m (by have := inv.le; omega) (fun k o hk1 hk2 ho hon => by
          rcases hb : mover P o.op with _ | _
          · rfl
          · have hk3 : k < ops.size := (Array.getElem?_eq_some_iff.mp ho).1
            have := (inv.mov k o ho hon hb).mp (hall k hk3)
            omega)
        rwa [show m + (ops.size - m) = ops.size by have := inv.le; omega] at this
      refine hq ρ1 a w1 ?_ inv.defers ?_
      · have := inv.env; rw [hmask] at this; exact this
      · rw [hHn]; exact inv.heap
    · intro j hj
      unfold Region.ready at hj
      rw [List.mem_filter] at hj
      obtain ⟨hjr, hjc⟩ := hj
      have hjn := List.mem_range.mp hjr
      obtain ⟨o, ho⟩ : ∃ o, ops[j]? = some o := ⟨ops[j], Array.getElem?_eq_getElem hjn⟩
      rw [ho] at hjc
      simp only [Bool.and_eq_true, Bool.not_eq_true', Option.map_some, Option.getD_some] at hjc
      obtain ⟨hLj', hedges'⟩ := hjc
      have hLj : listed.getD j false = false := by
        rw [Array.getD_eq_getD_getElem?] at hLj' ⊢
        rw [Array.getElem?_eq_getElem (by omega)] at hLj' ⊢
        exact hLj'
      have hedges : ∀ e ∈ o.after.toList, Region.binds .any e = true → listed.getD e.on false = true := by
        intro e he hb
        rw [← Array.all_toList, List.all_eq_true] at hedges'
        have := hedges' e he
        rw [hb] at this
        simpa using this
      -- what stands ahead has been performed
      have hpred : ∀ k q, ops[k]? = some q → (∀ e ∈ q.after.toList, Region.binds .any e = true → listed.getD e.on false = true) → ∀ i, ((Region.before ops).getD k 0).testBit i = true → listed.getD i false = true := by
        intro k
        induction k using Nat.strongRecOn with
        | _ k ihk =>
          intro q hq' hed i hbit
          obtain ⟨e, he, hb, hc⟩ := before_bit hq' hbit
          rcases hc with hc | ⟨hlt, hbit'⟩
          · rw [← hc]; exact hed e he hb
          · have hon := hed e he hb
            have hkn : k < ops.size := (Array.getElem?_eq_some_iff.mp hq').1
            obtain ⟨q2, hq2⟩ : ∃ o, ops[e.on]? = some o := ⟨ops[e.on], Array.getElem?_eq_getElem (by omega)⟩
            exact ihk e.on hlt q2 hq2 (fun e2 he2 hb2 => inv.down e.on q2 e2 hq2 hon he2 hb2) i hbit'
      have hpredj := hpred j o ho hedges
      have hback : ∀ k q, ops[k]? = some q → ((Region.before ops).getD k 0).testBit j = true → listed.getD k false = false := by
        intro k q hq' hbit
        rcases hb : listed.getD k false with _ | _
        · rfl
        · have := hpred k q hq' (fun e he hbb => inv.down k q e hq' hb he hbb) j hbit
          rw [hLj] at this
          cases this
      -- which writers of what it looks at, and of what it writes, have been performed
      have hwr : ∀ k t, k ≠ j → dstOf ops k = some t → (t ∈ o.looksAt ops ∨ o.dst = some t) → (listed.getD k false = decide (k < j)) := by
        intro k t hne hd hlook
        obtain ⟨q, hq', hqd⟩ : ∃ q, ops[k]? = some q ∧ q.dst = some t := by
          unfold dstOf at hd
          cases hk : ops[k]? with
          | none => rw [hk] at hd; cases hd
          | some q => rw [hk] at hd; exact ⟨q, rfl, hd⟩
        rcases Nat.lt_or_gt_of_ne hne with hlt | hgt
        · rw [decide_eq_true hlt]
          rcases hb : ((Region.before ops).getD j 0).testBit k with _ | _
          · exfalso
            obtain ⟨hap, _⟩ := hok.pair k j q o hlt hq' ho hb
            obtain ⟨h1, h2, h3⟩ := Oper.apart_spec hap
            rcases hlook with hl | hl
            · exact h1 t hqd hl
            · exact h2 t hqd hl
          · exact hpredj k hb
        · rw [decide_eq_false (by omega)]
          rcases hb : ((Region.before ops).getD k 0).testBit j with _ | _
          · exfalso
            obtain ⟨hap, _⟩ := hok.pair j k o q hgt ho hq' hb
            obtain ⟨h1, h2, h3⟩ := Oper.apart_spec hap
            rcases hlook with hl | hl
            · exact h3 t hqd hl
            · exact h2 t hl hqd
          · exact hback k q hq' hb
      have hslot : ∀ t, (t ∈ o.looksAt ops ∨ o.dst = some t) → (envM ops V (fun k => listed.getD k false) (List.range ops.size) (E 0))[t]? = (E j)[t]? := by
        intro t hl
        rw [hE j (by omega)]
        refine envM_get _ _ _ rfl fun k hk hd => ?_
        by_cases e : k = j
        · subst e; rw [hLj]; simp
        · exact hwr k t e hd hl
      have heval : ∀ x ∈ o.op.operands, evalO (envM ops V (fun k => listed.getD k false) (List.range ops.size) (E 0)) x = evalO (E j) x := by
        intro x hx
        cases x with
        | tmp t =>
          simp only [evalO]
          rw [getD_of (hslot t (.inl ?_))]
          unfold Oper.looksAt
          rw [List.mem_append]
          left
          rw [List.mem_filterMap]
          exact ⟨_, by simpa using hx, rfl⟩
        | _ => rfl
      have hwant : Region.wanted o (dyield ops (envM ops V (fun k => listed.getD k false) (List.range ops.size) (E 0))) = Region.wanted o (dyield ops (E j)) := by
        unfold Region.wanted
        cases hg : o.guard with
        | none => rfl
        | some gw =>
          obtain ⟨g, want⟩ := gw
          simp only
          congr 1
          unfold dyield
          cases hd : (ops[g]?).bind (·.dst) with
          | none => rfl
          | some t =>
            simp only [Option.bind_some]
            rw [hslot t (.inl ?_)]
            unfold Oper.looksAt
            rw [List.mem_append]
            right
            rw [hg]
            simp [hd]
      -- the new slots
      have hL' : ∀ k, (listed.setIfInBounds j true).getD k false = (listed.getD k false || decide (k = j)) := by
        intro k
        rw [Array.getD_eq_getD_getElem?, Array.getD_eq_getD_getElem?, Array.getElem?_setIfInBounds]
        by_cases e : j = k
        · subst e
          rw [if_pos rfl, if_pos (by omega)]
          simp
        · rw [if_neg e]
          have : decide (k = j) = false := by simp; exact fun h => e h.symm
          rw [this, Bool.or_false]
      have hdst : dstOf ops j = o.dst := by simp [dstOf, ho]
      have hnew := envM_add (ops := ops) (V := V) (A := fun k => listed.getD k false) (B := fun k => (listed.setIfInBounds j true).getD k false) (j := j) (n := ops.size) hjn hLj hL' (fun k hk hkn hLk t ht' hkd => by
        rw [hdst] at ht'
        have := hwr k t (by omega) hkd (.inr ht')
        rw [hLk, decide_eq_false (by omega)] at this
        cases this) (E 0)
      rw [hdst] at hnew
      -- on to the rest
      have go : ∀ (v : Value) (w2 : World) (ρ2 : Rho) (m2 : Nat), VR ρ2 (V j) v → ρ1.le ρ2 → m2 ≤ ops.size → (∀ k q, ops[k]? = some q → Trace.on ops E k q → mover P q.op = true → ((listed.setIfInBounds j true).getD k false = true ↔ k < m2)) →
          Moves ρ (HH 0) w ρ2 (HH m2) w2 → wpAny P .any ops Q fuel (listed.setIfInBounds j true) (a.put o.dst v) w2 := by
        intro v w2 ρ2 m2 hv hle hm2 hmov hmoves
        refine ih _ _ ρ2 w2 m2 (by simpa using hsz) ⟨?_, ?_, ?_, ?_, ?_, hm2, hmov, hmoves⟩
        · intro k hk
          rw [hL']
          have := inv.out k hk
          rw [this]
          simp
          omega
        · intro k q e hq' hLk he hb
          rw [hL'] at hLk ⊢
          rw [Bool.or_eq_true] at hLk ⊢
          rcases hLk with h | h
          · exact .inl (inv.down k q e hq' h he hb)
          · have := of_decide_eq_true h
            subst this
            rw [ho] at hq'
            cases hq'
            exact .inl (hedges e he hb)
        · have := filter_lt (p := fun k => !listed.getD k false) (q := fun k => !(listed.setIfInBounds j true).getD k false) (j := j) (fun k hk => by
            rw [hL'] at hk
            simp only [Bool.not_or, Bool.and_eq_true] at hk
            exact hk.1) (by simpa using hLj) (by rw [hL']; simp) (List.range ops.size) (List.mem_range.mpr hjn)
          have hc := inv.cnt
          omega
        · rw [hnew]
          exact (inv.env.mono hle).putD hv o.dst
        · rw [put_defers]; exact inv.defers
      unfold wpOp
      rw [ho]
      simp only
      rw [yield_eq inv.env, hwant]
      by_cases hw : Region.wanted o (dyield ops (E j)) = true
      · rw [if_pos hw]
        left
        have hop := ht.op j o (by omega) ho hw
        have same : ∀ k q, ops[k]? = some q → k ≠ j → ((listed.setIfInBounds j true).getD k false = true ↔ listed.getD k false = true) := by
          intro k q hq' hne
          rw [hL']
          simp [hne]
        by_cases hmv : mover P o.op = true
        · -- it changes the heap: all that did so ahead of it have been performed, none behind it
          have hmj : m ≤ j := by
            rcases Nat.lt_or_ge j m with h | h
            · have := (inv.mov j o ho hw hmv).mpr h
              rw [hLj] at this
              cases this
            · exact h
          have hbetween : ∀ k q, m ≤ k → k < j → ops[k]? = some q → Trace.on ops E k q → mover P q.op = false := by
            intro k q hk1 hk2 hq' hon
            rcases hb : mover P q.op with _ | _
            · rfl
            · exfalso
              have hnot : listed.getD k false = false := by
                rcases hb2 : listed.getD k false with _ | _
                · rfl
                · have := (inv.mov k q hq' hon hb).mp hb2; omega
              rcases hbit : ((Region.before ops).getD j 0).testBit k with _ | _
              · have := (hok.pair k j q o hk2 hq' ho hbit).2 hb
                rw [hmv] at this; cases this
              · have := hpredj k hbit
                rw [hnot] at this; cases this
          have hHm : HH j = HH m := by
            have := hH (j - m) m (by omega) (fun k q hk1 hk2 => hbetween k q hk1 (by omega))
            rwa [show m + (j - m) = j by omega] at this
          rw [hHm, ← opD_congr heval] at hop
          refine op_wp hcf hop inv.env inv.heap.agree fun v w2 ρ2 hv hmoves => ?_
          refine go v w2 ρ2 (j + 1) hv hmoves.le (by omega) (fun k q hq' hon hb => ?_) (inv.heap.trans hmoves)
          by_cases e : k = j
          · subst e; rw [hL']; simp
          · rw [same k q hq' e]
            have hi := inv.mov k q hq' hon hb
            rw [hi]
            constructor
            · intro h; omega
            · intro h
              rcases Nat.lt_or_ge k m with h2 | h2
              · exact h2
              · have := hbetween k q h2 (by omega) hq' hon
                rw [hb] at this; cases this
        · have hmv' : mover P o.op = false := by simpa using hmv
          have hmov2 : ∀ k q, ops[k]? = some q → Trace.on ops E k q → mover P q.op = true → ((listed.setIfInBounds j true).getD k false = true ↔ k < m) := by
            intro k q hq' hon hb
            have hne : k ≠ j := fun e => by subst e; rw [ho] at hq'; cases hq'; rw [hmv'] at hb; cases hb
            rw [same k q hq' hne]
            exact inv.mov k q hq' hon hb
          have hval : opD P cf o (envM ops V (fun k => listed.getD k false) (List.range ops.size) (E 0)) (HH m) = some (V j, HH m) := by
            rw [opD_congr heval]
            obtain ⟨hHj, hrd, hpu⟩ := opD_stays hop hmv'
            by_cases hr : reader P o.op = true
            · refine opD_read hmv' hr ?_
              rcases Nat.lt_or_ge j m with hlt | hge
              · -- it was read behind: the last that changed the heap and has been performed
                by_cases hex : ∃ k q, j < k ∧ k < m ∧ ops[k]? = some q ∧ Trace.on ops E k q ∧ mover P q.op = true
                · -- the greatest of these
                  have hgreat : ∀ d, d ≤ m → (∃ k q, j < k ∧ k < d ∧ ops[k]? = some q ∧ Trace.on ops E k q ∧ mover P q.op = true) → ∃ k q, j < k ∧ k < d ∧ ops[k]? = some q ∧ Trace.on ops E k q ∧ mover P q.op = true ∧ ∀ k' q', k < k' → k' < d → ops[k']? = some q' → Trace.on ops E k' q' → mover P q'.op = false := by
                    intro d
                    induction d with
                    | zero => rintro _ ⟨k, q, h1, h2, _⟩; omega
                    | succ d ihd =>
                      rintro hd ⟨k, q, h1, h2, h3, h4, h5⟩
                      by_cases hlast : ∃ q', ops[d]? = some q' ∧ Trace.on ops E d q' ∧ mover P q'.op = true ∧ j < d
                      · obtain ⟨q', h6, h7, h8, h9⟩ := hlast
                        exact ⟨d, q', h9, by omega, h6, h7, h8, fun k' _ hk1 hk2 => by omega⟩
                      · have hkd : k < d := by
                          rcases Nat.lt_or_ge k d with h | h
                          · exact h
                          · have : k = d := by omega
                            subst this
                            exact absurd ⟨q, h3, h4, h5, h1⟩ hlast
                        obtain ⟨k2, q2, e1, e2, e3, e4, e5, e6⟩ := ihd (by omega) ⟨k, q, h1, hkd, h3, h4, h5⟩
                        refine ⟨k2, q2, e1, by omega, e3, e4, e5, fun k' q' hk1 hk2 hq' hon => ?_⟩
                        rcases Nat.lt_or_ge k' d with h | h
                        · exact e6 k' q' hk1 h hq' hon
                        · have : k' = d := by omega
                          subst this
                          rcases hb : mover P q'.op with _ | _
                          · rfl
                          · exact absurd ⟨q', hq', hon, hb, by omega⟩ hlast
                  obtain ⟨k, q, h1, h2, h3, h4, h5, h6⟩ := hgreat m (Nat.le_refl _) hex
                  have hHk : HH m = HH (k + 1) := by
                    have := hH (m - (k + 1)) (k + 1) (by have := inv.le; omega) (fun k' q' hk1 hk2 hq' hon => h6 k' q' (by omega) (by omega) hq' hon)
                    rwa [show k + 1 + (m - (k + 1)) = m by omega] at this
                  rw [hHk]
                  have hLk := (inv.mov k q h3 h4 h5).mpr h2
                  have hbit : ((Region.before ops).getD k 0).testBit j = false := by
                    rcases hb : ((Region.before ops).getD k 0).testBit j with _ | _
                    · rfl
                    · have := hback k q h3 hb
                      rw [hLk] at this; cases this
                  exact ht.later j o k q (by omega) h1 ho h3 hw h4 hmv' hr h5 hbit
                · have hHk : HH m = HH j := by
                    have := hH (m - j) j (by have := inv.le; omega) (fun k' q' hk1 hk2 hq' hon => by
                      rcases hb : mover P q'.op with _ | _
                      · rfl
                      · exfalso
                        rcases Nat.lt_or_ge j k' with h | h
                        · exact hex ⟨k', q', h, by omega, hq', hon, hb⟩
                        · have : k' = j := by omega
                          subst this
                          rw [ho] at hq'; cases hq'
                          rw [hmv'] at hb; cases hb)
                    rwa [show j + (m - j) = m by omega] at this
                  rw [hHk]
                  exact hrd hr
              · -- it was read ahead: the first that changes the heap and has not been performed
                by_cases hex : ∃ k q, m ≤ k ∧ k < j ∧ ops[k]? = some q ∧ Trace.on ops E k q ∧ mover P q.op = true
                · have hleast : ∀ d, (∃ k q, m ≤ k ∧ k < m + d ∧ ops[k]? = some q ∧ Trace.on ops E k q ∧ mover P q.op = true) → ∃ k q, m ≤ k ∧ k < m + d ∧ ops[k]? = some q ∧ Trace.on ops E k q ∧ mover P q.op = true ∧ ∀ k' q', m ≤ k' → k' < k → ops[k']? = some q' → Trace.on ops E k' q' → mover P q'.op = false := by
                    intro d
                    induction d with
                    | zero => rintro ⟨k, q, h1, h2, _⟩; omega
                    | succ d ihd =>
                      rintro ⟨k, q, h1, h2, h3, h4, h5⟩
                      by_cases hbefore : ∃ k q, m ≤ k ∧ k < m + d ∧ ops[k]? = some q ∧ Trace.on ops E k q ∧ mover P q.op = true
                      · obtain ⟨k2, q2, e1, e2, e3⟩ := ihd hbefore
                        exact ⟨k2, q2, e1, by omega, e3⟩
                      · refine ⟨k, q, h1, h2, h3, h4, h5, fun k' q' hk1 hk2 hq' hon => ?_⟩
                        rcases hb : mover P q'.op with _ | _
                        · rfl
                        · exact absurd ⟨k', q', hk1, by omega, hq', hon, hb⟩ hbefore
                  obtain ⟨k, q, h1, h2, h3, h4, h5, h6⟩ := hleast (j - m) (by obtain ⟨k, q, e1, e2, e3⟩ := hex; exact ⟨k, q, e1, by omega, e3⟩)
                  have hHk : HH k = HH m := by
                    have hkn : k < ops.size := (Array.getElem?_eq_some_iff.mp h3).1
                    have := hH (k - m) m (by omega) (fun k' q' hk1 hk2 hq' hon => h6 k' q' hk1 (by omega) hq' hon)
                    rwa [show m + (k - m) = k by omega] at this
                  rw [← hHk]
                  have hnot : listed.getD k false = false := by
                    rcases hb2 : listed.getD k false with _ | _
                    · rfl
                    · have := (inv.mov k q h3 h4 h5).mp hb2; omega
                  have hbit : ((Region.before ops).getD j 0).testBit k = false := by
                    rcases hb : ((Region.before ops).getD j 0).testBit k with _ | _
                    · rfl
                    · have := hpredj k hb
                      rw [hnot] at this; cases this
                  exact ht.sooner j o k q (by omega) (by omega) ho h3 hw h4 hmv' hr h5 hbit
                · have hHk : HH j = HH m := by
                    have := hH (j - m) m (by omega) (fun k' q' hk1 hk2 hq' hon => by
                      rcases hb : mover P q'.op with _ | _
                      · rfl
                      · exact absurd ⟨k', q', hk1, by omega, hq', hon, hb⟩ hex)
                    rwa [show m + (j - m) = j by omega] at this
                  rw [← hHk]
                  exact hrd hr
            · have hr' : reader P o.op = false := by simpa using hr
              exact opD_pure hmv' hr' (hpu hr')
          refine op_wp hcf hval inv.env inv.heap.agree fun v w2 ρ2 hv hmoves => ?_
          exact go v w2 ρ2 m hv hmoves.le inv.le hmov2 (inv.heap.trans hmoves)
      · rw [if_neg hw]
        obtain ⟨hVj, hHj⟩ := ht.off j o (by omega) ho hw
        refine go undef w1 ρ1 m (by rw [hVj]; exact VR_undef _) (Rho.le_refl _) inv.le (fun k q hq' hon hb => ?_) inv.heap
        have hne : k ≠ j := fun e => by subst e; rw [ho] at hq'; cases hq'; exact hw hon
        rw [hL']
        simp only [hne, decide_false, Bool.or_false]
        exact inv.mov k q hq' hon hb

end
end Go.Det
