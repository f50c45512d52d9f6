/- Slices whose rows are told; slices of one's own, that grow. -/
import Derived.Test.YtphnddoneocfhaaD27
namespace Go.Det
set_option linter.unusedVariables false
set_option linter.unusedSimpArgs false

/-- Slots of no matter, told by one function. -/
theorem junk_eq {env : List DV} {H H' : DH} {F : (Nat → DV) → List DV} (h : F (fun k => env.getD k undefD) = env) (hH : H = H') : ∃ J : Nat → DV, (⟨env, H⟩ : DSt) = ⟨F J, H'⟩ := ⟨_, by rw [h, hH]⟩
theorem junk_facts {A : Prop} {env : List DV} {H H' : DH} {F : (Nat → DV) → List DV} (ha : A) (h : F (fun k => env.getD k undefD) = env) (hH : H = H') : ∃ J : Nat → DV, A ∧ (⟨env, H⟩ : DSt) = ⟨F J, H'⟩ := ⟨_, ha, by rw [h, hH]⟩

/-- A slice's rows: where it leads to, R lie. -/
inductive Sl (H : DH) (z : Nat) (R : List (List DV)) : Option (Nat × Nat × Nat) → Prop
  | nil : R = [] → Sl H z R none
  | at {loc i : Nat} {ro : Bool} {rs : List (List DV)} : loc < H.next → H.obj loc = some (.rows ro z rs) → i + R.length ≤ rs.length → (rs.drop i).take R.length = R → Sl H z R (some (loc, i, z))

section
variable {H H' A : DH} {z : Nat} {R : List (List DV)} {p : Option (Nat × Nat × Nat)}

theorem Sl.rd (h : Sl H z R p) {k : Nat} {r : List DV} (hk : R[k]? = some r) : ∃ loc i ro rs, p = some (loc, i, z) ∧ loc < H.next ∧ H.obj loc = some (.rows ro z rs) ∧ rs[i + k]? = some r := by
  cases h with
  | nil h => subst h; simp at hk
  | @«at» loc i ro rs h1 h2 h3 h4 =>
    refine ⟨loc, i, ro, rs, rfl, h1, h2, ?_⟩
    have hlt := (List.getElem?_eq_some_iff.mp hk).1
    rw [← h4, List.getElem?_take, if_pos hlt, List.getElem?_drop] at hk
    exact hk

theorem Sl.mono (h : Sl H z R p) (ha : Above H H') : Sl H' z R p := by
  cases h with
  | nil h => exact .nil h
  | «at» h1 h2 h3 h4 => exact .at (Nat.lt_of_lt_of_le h1 ha.le) (ha.obj h1 h2) h3 h4

theorem Sl.rows (h : Sl H z R p) (c : Nat) (ex : Bool) : rowsOf H (.sl p R.length c ex) = some R := by
  cases h with
  | nil h => subst h; rfl
  | «at» h1 h2 h3 h4 => simp only [rowsOf, h2, if_pos h3, h4]

theorem Sl.fresh {ro : Bool} : Sl (H.new (.rows ro z R)) z R (some (H.next, 0, z)) := .at (Nat.lt_succ_self _) (obj_here rfl) (by omega) (by simp)

theorem Sl.new (h : Sl H z R p) (o : DObj) : Sl (H.new o) z R p := h.mono ((Above.refl H).new o)

theorem Sl.set (h : Sl H z R p) (m : Nat) (o : Option DObj) (hm : ∀ loc i z, p = some (loc, i, z) → loc ≠ m) : Sl (H.set m o) z R p := by
  cases h with
  | nil h => exact .nil h
  | «at» h1 h2 h3 h4 => exact .at h1 (obj_past (hm _ _ _ rfl) h2) h3 h4

theorem Sl.sub (h : Sl H z R p) {a b : Nat} (hab : a ≤ b) (hb : b ≤ R.length) : Sl H z ((R.drop a).take (b - a)) (p.map fun (l, i, z) => (l, i + a, z)) := by
  cases h with
  | nil h => subst h; exact .nil (by simp)
  | @«at» loc i ro rs h1 h2 h3 h4 =>
    have e : ((R.drop a).take (b - a)).length = b - a := by rw [List.length_take, List.length_drop]; omega
    refine .at h1 h2 (by rw [e]; omega) ?_
    rw [e]
    conv => rhs; rw [← h4]
    rw [List.drop_take, List.take_take, List.drop_drop, Nat.min_eq_left (by omega)]

theorem Sl.in_rows {loc i : Nat} (h : Sl H z R (some (loc, i, z))) : ∃ ro rs, H.obj loc = some (.rows ro z rs) ∧ i + R.length ≤ rs.length ∧ (rs.drop i).take R.length = R ∧ loc < H.next := by
  cases h with
  | «at» h1 h2 h3 h4 => exact ⟨_, _, h2, h3, h4, h1⟩

theorem Sl.size {l i y : Nat} (h : Sl H z R (some (l, i, y))) : y = z := by cases h; rfl
theorem Sl.none_len (h : Sl H z R none) : R = [] := by cases h; assumption
end

/-- All but one place as it was. -/
structure AboveX (x : Nat → Prop) (H H' : DH) : Prop where
  le : H.next ≤ H'.next
  same : ∀ l, l < H.next → ¬ x l → H'.obj l = H.obj l

theorem AboveX.refl {x : Nat → Prop} (H : DH) : AboveX x H H := ⟨Nat.le_refl _, fun _ _ _ => rfl⟩
theorem AboveX.of {x : Nat → Prop} {H H' : DH} (h : Above H H') : AboveX x H H' := ⟨h.le, fun l hl _ => h.same l hl⟩
theorem AboveX.trans {x : Nat → Prop} {A B C : DH} (h : AboveX x A B) (k : AboveX x B C) : AboveX x A C := ⟨Nat.le_trans h.le k.le, fun l hl hx => (k.same l (Nat.lt_of_lt_of_le hl h.le) hx).trans (h.same l hl hx)⟩
theorem AboveX.weaken {x y : Nat → Prop} {A B : DH} (h : AboveX x A B) (k : ∀ l, l < A.next → x l → y l) : AboveX y A B := ⟨h.le, fun l hl hy => h.same l hl fun hx => hy (k l hl hx)⟩
theorem AboveX.above {x : Nat → Prop} {A H H' : DH} (ha : Above A H) (h : AboveX x H H') (hx : ∀ l, x l → A.next ≤ l) : Above A H' :=
  ⟨Nat.le_trans ha.le h.le, fun l hl => (h.same l (Nat.lt_of_lt_of_le hl ha.le) fun k => by have := hx l k; omega).trans (ha.same l hl)⟩
theorem AboveX.set (x : Nat → Prop) (H : DH) (l : Nat) (o : Option DObj) (hx : x l) : AboveX x H (H.set l o) := ⟨Nat.le_refl _, fun m _ hm => obj_past (fun e => hm (e ▸ hx)) rfl⟩
theorem AboveX.new (x : Nat → Prop) (H : DH) (o : DObj) : AboveX x H (H.new o) := .of ((Above.refl H).new o)
theorem AboveX.none {H H' : DH} (h : AboveX (fun _ => False) H H') : Above H H' := ⟨h.le, fun l hl => h.same l hl id⟩

theorem Sl.monoX {x : Nat → Prop} {H H' : DH} {z : Nat} {R : List (List DV)} {p : Option (Nat × Nat × Nat)} (h : Sl H z R p) (ha : AboveX x H H') (hx : ∀ l i z, p = some (l, i, z) → ¬ x l) : Sl H' z R p := by
  cases h with
  | nil h => exact .nil h
  | «at» h1 h2 h3 h4 => exact .at (Nat.lt_of_lt_of_le h1 ha.le) ((ha.same _ h1 (hx _ _ _ rfl)).trans h2) h3 h4

/-- Where a slice leads to. -/
def leads (s : DV) (l : Nat) : Prop := ∃ i z n c ex, s = .sl (some (l, i, z)) n c ex

theorem leads_at {a i z n c l m : Nat} {ex : Bool} (h : leads (.sl (some (a, i, z)) n c ex) l) (k : m ≤ a) : m ≤ l := by
  obtain ⟨_, _, _, _, _, e⟩ := h
  cases e
  exact k

/-- A slice of one's own: made since the heap was A, or empty. -/
inductive Mine (A H : DH) (z : Nat) (R : List (List DV)) : DV → Prop
  | nil : R = [] → Mine A H z R (.sl none 0 0 true)
  | empty {loc i : Nat} {ro : Bool} {rs : List (List DV)} : R = [] → loc < H.next → H.obj loc = some (.rows ro z rs) → i ≤ rs.length → Mine A H z R (.sl (some (loc, i, z)) 0 0 true)
  | at {loc : Nat} {ex : Bool} : A.next ≤ loc → loc < H.next → H.obj loc = some (.rows false z R) → Mine A H z R (.sl (some (loc, 0, z)) R.length R.length ex)

section
variable {H H' A : DH} {z : Nat} {R : List (List DV)} {s : DV}

theorem Mine.sl (h : Mine A H z R s) : ∃ p c ex, s = .sl p R.length c ex ∧ Sl H z R p := by
  cases h with
  | nil h => subst h; exact ⟨none, 0, true, rfl, .nil rfl⟩
  | empty h h1 h2 h3 => subst h; exact ⟨_, 0, true, rfl, .at h1 h2 (by simpa using h3) (by simp)⟩
  | «at» h1 h2 h3 => exact ⟨_, _, _, rfl, .at h2 h3 (by omega) (by simp)⟩

theorem Mine.wr (h : Mine A H z R s) {k : Nat} {r : List DV} (hk : R[k]? = some r) : ∃ loc ex, s = .sl (some (loc, 0, z)) R.length R.length ex ∧ A.next ≤ loc ∧ loc < H.next ∧ H.obj loc = some (.rows false z R) := by
  cases h with
  | nil h => subst h; simp at hk
  | empty h h1 h2 h3 => subst h; simp at hk
  | «at» h1 h2 h3 => exact ⟨_, _, rfl, h1, h2, h3⟩

theorem Mine.mono (h : Mine A H z R s) (ha : Above H H') : Mine A H' z R s := by
  cases h with
  | nil h => exact .nil h
  | empty h h1 h2 h3 => exact .empty h (Nat.lt_of_lt_of_le h1 ha.le) (ha.obj h1 h2) h3
  | «at» h1 h2 h3 => exact .at h1 (Nat.lt_of_lt_of_le h2 ha.le) (ha.obj h2 h3)

theorem Mine.monoX {x : Nat → Prop} (h : Mine A H z R s) (ha : AboveX x H H') (hx : ∀ l, leads s l → ¬ x l) : Mine A H' z R s := by
  cases h with
  | nil h => exact .nil h
  | empty h h1 h2 h3 => exact .empty h (Nat.lt_of_lt_of_le h1 ha.le) ((ha.same _ h1 (hx _ ⟨_, _, _, _, _, rfl⟩)).trans h2) h3
  | «at» h1 h2 h3 => exact .at h1 (Nat.lt_of_lt_of_le h2 ha.le) ((ha.same _ h2 (hx _ ⟨_, _, _, _, _, rfl⟩)).trans h3)

theorem Mine.older {B : DH} (h : Mine A H z R s) (hb : B.next ≤ A.next) : Mine B H z R s := by
  cases h with
  | nil h => exact .nil h
  | empty h h1 h2 h3 => exact .empty h h1 h2 h3
  | «at» h1 h2 h3 => exact .at (Nat.le_trans hb h1) h2 h3
end

/-- The facts of an element's type. -/
structure ElemT (P : Program) (st e : TypeId) (z by_ : Nat) (z0 : DV) : Prop where
  u : P.underlying st = some (.slice e)
  s : sizeT P e = some z
  b : bytesT P e = some by_
  zr : zeroT P e = some z0
  pos : 0 < z
  le : by_ ≤ 4096
  len : z0.cells.length = z
  one : z0.cells.all DV.one = true

section
variable {P : Program} {X : Ext} {st e : TypeId} {z by_ : Nat} {z0 : DV}

theorem appendD_mine (E : ElemT P st e z by_ z0) {A H : DH} {R new : List (List DV)} {s x : DV} {xt : Option TypeDesc} (hown : Mine A H z R s) (hab : Above A H) (hnew : appendedD P e H xt x = some new) (hall : new.all (fun r => r.length == z && r.all DV.one) = true) (hlen : R.length + new.length ≤ mostD) :
    ∃ s' H', appendD P st xt H s x = some (s', H') ∧ Mine A H' z (R ++ new) s' ∧ Above A H' ∧ AboveX (fun l => A.next ≤ l ∧ leads s l) H H' ∧ (new ≠ [] → ∀ l, leads s' l → H.next ≤ l) := by
  obtain ⟨m, rfl⟩ : ∃ m, z = m + 1 := ⟨z - 1, by have := E.pos; omega⟩
  have hc : by_ ≤ 4096 ∧ z0.cells.length = m + 1 ∧ (new.all fun r => r.length == m + 1 && r.all DV.one) = true := ⟨E.le, E.len, hall⟩
  unfold appendD
  simp only [E.u, E.s, E.b, E.zr, hnew]
  rw [if_pos hc]
  cases hown with
  | nil h =>
    subst h
    simp only
    by_cases hn : new = []
    · rw [if_pos hn]
      subst hn
      exact ⟨_, _, rfl, .nil rfl, hab, .refl H, fun hne => absurd rfl hne⟩
    · rw [if_neg hn, if_pos (by simpa using hlen)]
      exact ⟨_, _, rfl, .at (Nat.le_trans hab.le (Nat.le_refl _)) (Nat.lt_succ_self _) (obj_here rfl), hab.new _, .new _ _ _, fun _ l hl => leads_at hl (Nat.le_refl _)⟩
  | @empty loc i ro rs h h1 h2 h3 =>
    subst h
    simp only
    rw [if_neg (by simp)]
    by_cases hn : new = []
    · rw [if_pos hn]
      subst hn
      exact ⟨_, _, rfl, .empty rfl h1 h2 h3, hab, .refl H, fun hne => absurd rfl hne⟩
    · rw [if_neg hn]
      simp only [h2]
      have hpos : 0 < new.length := List.length_pos_iff.mpr hn
      rw [if_neg (by simp only [List.length_nil] at hlen; omega), if_neg (by omega), if_pos trivial]
      refine ⟨_, _, rfl, ?_, hab.new _, .new _ _ _, fun _ l hl => leads_at hl (Nat.le_refl _)⟩
      have e1 : (rs.drop i).take 0 ++ new = new := by simp
      rw [e1]
      have e2 : 0 + new.length = ([] ++ new).length := by simp
      rw [e2]
      exact .at (Nat.le_trans hab.le (Nat.le_refl _)) (Nat.lt_succ_self _) (obj_here rfl)
  | @«at» loc ex h1 h2 h3 =>
    simp only
    rw [if_neg (by simp)]
    by_cases hn : new = []
    · rw [if_pos hn]
      subst hn
      rw [List.append_nil]
      exact ⟨_, _, rfl, .at h1 h2 h3, hab, .refl H, fun hne => absurd rfl hne⟩
    · rw [if_neg hn]
      simp only [h3]
      have hpos : 0 < new.length := List.length_pos_iff.mpr hn
      rw [if_neg (by omega), if_neg (by omega)]
      have e1 : (R.drop 0).take R.length ++ new = R ++ new := by simp
      have e2 : R.length + new.length = (R ++ new).length := by simp
      rw [e1, e2]
      cases ex with
      | true =>
        rw [if_pos rfl]
        exact ⟨_, _, rfl, .at (Nat.le_trans hab.le (Nat.le_refl _)) (Nat.lt_succ_self _) (obj_here rfl), hab.new _, .new _ _ _, fun _ l hl => leads_at hl (Nat.le_refl _)⟩
      | false =>
        rw [if_neg (by simp), if_pos trivial]
        refine ⟨_, _, rfl, .at (Nat.le_trans hab.le (Nat.le_refl _)) (Nat.lt_succ_self _) (obj_here rfl), (hab.set h1 _).new _, ?_, fun _ l hl => leads_at hl (Nat.le_refl _)⟩
        exact (AboveX.set _ H loc none ⟨h1, _, _, _, _, _, rfl⟩).trans (.new _ _ _)

/-- One's own slice grows. -/
theorem op_append {o : Oper} {x y : Operand} {xt : TypeId} (ho : o.op = .call ⟨.builtin .append, #[x, y], #[st, xt]⟩) {env : List DV} {A H : DH} {K : DV → DH → Prop} {s d : DV} (hx : evalO env x = some s) (hy : evalO env y = some d)
    (E : ElemT P st e z by_ z0) {R new : List (List DV)} (hown : Mine A H z R s) (hab : Above A H) (hnew : appendedD P e H (P.underlying xt) d = some new) (hall : new.all (fun r => r.length == z && r.all DV.one) = true) (hlen : R.length + new.length ≤ mostD)
    (hk : ∀ s' H', Mine A H' z (R ++ new) s' → Above A H' → AboveX (fun l => A.next ≤ l ∧ leads s l) H H' → (new ≠ [] → ∀ l, leads s' l → H.next ≤ l) → K s' H') : OpWp P X o env H K := by
  obtain ⟨s', H', h1, h2, h3, h4, h5⟩ := appendD_mine E hown hab hnew hall hlen
  refine op_at (v := s') (H' := H') ?_ (hk s' H' h2 h3 h4 h5)
  simp only [opD, ho, mover, moveD, hx, hy, if_true]
  exact h1

theorem appended_sl {H : DH} {xt : Option TypeDesc} {t : TypeId} (hu : xt = some (.slice t)) {R : List (List DV)} {p : Option (Nat × Nat × Nat)} (h : Sl H z R p) (c : Nat) (ex : Bool) : appendedD P e H xt (.sl p R.length c ex) = some R := by
  subst hu
  simp only [appendedD]
  exact h.rows c ex

/-- A slice that was made. -/
theorem op_make (E : ElemT P st e z by_ z0) {o : Oper} {x y : Operand} (ho : o.op = .makeSlice st x y) {env : List DV} {H : DH} {K : DV → DH → Prop} {n c : Nat} {j k : IntKind} (hx : evalO env x = some (.int j n)) (hy : evalO env y = some (.int k c)) (hn : n ≤ c) (hc : c ≤ mostD)
    (hk : K (.sl (some (H.next, 0, z)) n c true) (H.new (.rows false z (List.replicate c z0.cells)))) : OpWp P X o env H K := by
  obtain ⟨m, rfl⟩ : ∃ m, z = m + 1 := ⟨z - 1, by have := E.pos; omega⟩
  refine op_at ?_ hk
  simp only [opD, ho, mover, moveD, hx, hy, if_true, makeSliceD, E.u, E.s, E.b, E.zr]
  rw [if_pos ⟨by omega, by omega, by omega, E.le, E.len, E.one⟩]
  rfl
end
end Go.Det
