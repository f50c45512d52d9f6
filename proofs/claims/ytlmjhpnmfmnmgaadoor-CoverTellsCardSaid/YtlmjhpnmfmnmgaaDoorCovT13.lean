/- Cover: the reference's Report comes to the same. -/
import Derived.Test.YtlmjhpnmfmnmgaaDoorCovT12
namespace Go.Det.C
open Go Go.Det Go.Proofs
set_option linter.unusedVariables false
set_option linter.unusedSimpArgs false
structure RSt where
  b : Int
  f : Bool
  d : Bool
  a : Int
def refNote (x : Inj) (c : RSt) (y : Ev) : RSt := if c.f = true ∧ c.d = false ∧ noticesF x y = true then ⟨c.b, c.f, true, y.t⟩ else c
def refStep (x : Inj) (c : RSt) (y : Ev) : RSt := if y = keyOf x then ⟨(refNote x c y).b - 1, (refNote x c y).f || ((refNote x c y).b == 0), (refNote x c y).d, (refNote x c y).a⟩ else refNote x c y
def bef (tab : List Inj) (i : Nat) (x : Inj) : Nat := (tab.take i).countP fun z => decide (x = z)
def refF (tab : List Inj) (i : Nat) (x : Inj) (log : List Ev) : RSt := log.foldl (refStep x) ⟨bef tab i x, false, false, 0⟩
structure Nth (tab : List Inj) (s : CSt) (i : Nat) (x : Inj) (c : RSt) : Prop where
  row : s.fires[i]? = some ⟨x, c.f, c.d, c.a⟩
  un : c.f = false → c.d = false ∧ ∃ n : Nat, c.b = n ∧ (s.q (keyOf x))[n]? = some i
  ng : c.f = true → c.b < 0
  op : c.f = true → c.d = false → i ∈ s.op
  cl : c.d = true → i ∉ s.op
theorem Nth.step {tab : List Inj} {s : CSt} {i : Nat} {x : Inj} {c : RSt} (hw : WFC tab s) (h : Nth tab s i x c) (y : Ev) : Nth tab (stepC tab s y) i x (refStep x c y) := by
  have hx : tab[i]? = some x := hw.x i _ h.row
  have hn : notI tab y i = noticesF x y := by unfold notI; rw [hx]
  have hrow : (stepC tab s y).fires[i]? = some (rowStep tab s y i ⟨x, c.f, c.d, c.a⟩) := by rw [stepC_get, h.row]; rfl
  obtain ⟨cb, cf, cd, ca⟩ := c
  simp only at h hrow
  rcases hw.row y h.row with ⟨h1, h2, h3, e⟩ | ⟨h1, h2, h3, h4, e⟩ | ⟨h1, h2, e⟩
  · -- it fires
    simp only at h2
    subst h2
    obtain ⟨hd, n, hb, hq⟩ := h.un rfl
    simp only at hd hb
    subst hd
    have hk : y = keyOf x := by
      obtain ⟨g, hg, _, g2⟩ := hw.q y i (List.mem_of_mem_head? (by rw [h1]; rfl))
      have := h.row
      rw [hg] at this
      cases this
      exact g2.symm
    have hn0 : n = 0 := by
      have hnd := hw.nd (keyOf x)
      rw [hk] at h1
      have h0 : (s.q (keyOf x))[0]? = some i := by rw [← List.head?_eq_getElem?]; exact h1
      obtain ⟨l1, e1⟩ := List.getElem?_eq_some_iff.mp hq
      obtain ⟨l0, e0⟩ := List.getElem?_eq_some_iff.mp h0
      exact (List.getElem_inj (h₀ := l1) (h₁ := l0) hnd).mp (e1.trans e0.symm)
    subst hn0
    have es : refStep x ⟨cb, false, false, ca⟩ y = ⟨-1, true, false, ca⟩ := by
      unfold refStep refNote
      rw [hb]
      simp [hk]
    rw [es]
    refine ⟨by rw [hrow, e]; rfl, fun h => (by cases h), fun _ => (by show (-1 : Int) < 0; decide), fun _ _ => ?_, fun h => (by cases h)⟩
    rw [stepC_op, List.mem_append]
    right
    rw [h1]; simp
  · -- it is open
    simp only at h3 h4
    subst h3 h4
    have hng := h.ng rfl
    simp only at hng
    have es : (refStep x ⟨cb, true, false, ca⟩ y).f = true ∧ (refStep x ⟨cb, true, false, ca⟩ y).b < 0 ∧ (refStep x ⟨cb, true, false, ca⟩ y).d = noticesF x y ∧ (refStep x ⟨cb, true, false, ca⟩ y).a = if noticesF x y = true then y.t else ca := by
      unfold refStep refNote
      by_cases hb : noticesF x y = true <;> by_cases hk : y = keyOf x <;> simp [hb, hk] <;> first | omega | (subst hk; simp_all; omega) | (subst hk; simp_all)
    obtain ⟨e1, e2, e3, e4⟩ := es
    rw [hn] at e
    by_cases hb : noticesF x y = true
    · rw [if_pos hb] at e e4
      rw [hb] at e3
      refine ⟨by rw [hrow, e, e1, e3, e4]; rfl, fun h => (by rw [e1] at h; cases h), fun _ => e2, fun _ h => (by rw [e3] at h; cases h), fun _ hi => ?_⟩
      rw [stepC_op, List.mem_append] at hi
      rcases hi with hi | hi
      · have := (mem_noteOp.mp hi).2
        rw [hn, hb] at this; cases this
      · rw [Option.mem_toList] at hi
        exact h1 hi
    · have hb' : noticesF x y = false := by simpa using hb
      rw [if_neg hb] at e e4
      rw [hb'] at e3
      refine ⟨by rw [hrow, e, e1, e3, e4], fun h => (by rw [e1] at h; cases h), fun _ => e2, fun _ _ => ?_, fun h => (by rw [e3] at h; cases h)⟩
      rw [stepC_op, List.mem_append]
      left
      exact mem_noteOp.mpr ⟨h2, by rw [hn]; exact hb'⟩
  · -- neither
    have hnot : ¬(cf = true ∧ cd = false) := fun ⟨a, b⟩ => h2 (h.op a b)
    have hopc : i ∉ (stepC tab s y).op := fun hi => by
      rw [stepC_op, List.mem_append] at hi
      rcases hi with hi | hi
      · exact h2 (mem_noteOp.mp hi).1
      · rw [Option.mem_toList] at hi
        exact h1 hi
    have hno : refNote x ⟨cb, cf, cd, ca⟩ y = ⟨cb, cf, cd, ca⟩ := by
      unfold refNote
      rw [if_neg (fun hh => hnot ⟨hh.1, hh.2.1⟩)]
    cases cf with
    | true =>
      have hcd : cd = true := by cases cd with | true => rfl | false => exact absurd ⟨rfl, rfl⟩ hnot
      subst hcd
      have hng := h.ng rfl
      simp only at hng
      have es : (refStep x ⟨cb, true, true, ca⟩ y).f = true ∧ (refStep x ⟨cb, true, true, ca⟩ y).b < 0 ∧ (refStep x ⟨cb, true, true, ca⟩ y).d = true ∧ (refStep x ⟨cb, true, true, ca⟩ y).a = ca := by
        unfold refStep
        rw [hno]
        by_cases hk : y = keyOf x
        · rw [if_pos hk]; exact ⟨rfl, by show cb - 1 < 0; omega, rfl, rfl⟩
        · rw [if_neg hk]; exact ⟨rfl, hng, rfl, rfl⟩
      obtain ⟨e1, e2, e3, e4⟩ := es
      exact ⟨by rw [hrow, e, e1, e3, e4], fun h => (by rw [e1] at h; cases h), fun _ => e2, fun _ h => (by rw [e3] at h; cases h), fun _ => hopc⟩
    | false =>
      obtain ⟨hd, n, hb, hq⟩ := h.un rfl
      simp only at hd hb
      subst hd
      by_cases hk : y = keyOf x
      · have hn0 : n ≠ 0 := by
          intro e0
          subst e0
          rw [hk] at h1
          exact h1 (by rw [List.head?_eq_getElem?]; exact hq)
        have es : refStep x ⟨cb, false, false, ca⟩ y = ⟨cb - 1, false, false, ca⟩ := by
          unfold refStep
          rw [hno, if_pos hk]
          have : (cb == 0) = false := by rw [hb]; simp; omega
          simp only [this, Bool.or_false]
        rw [es]
        refine ⟨by rw [hrow, e], fun _ => ⟨rfl, n - 1, by show cb - 1 = _; omega, ?_⟩, fun h => (by cases h), fun h => (by cases h), fun h => (by cases h)⟩
        rw [stepC_q, if_pos hk.symm, hk, List.getElem?_tail, show n - 1 + 1 = n by omega]
        exact hq
      · have es : refStep x ⟨cb, false, false, ca⟩ y = ⟨cb, false, false, ca⟩ := by
          unfold refStep
          rw [hno, if_neg hk]
        rw [es]
        refine ⟨by rw [hrow, e], fun _ => ⟨rfl, n, hb, ?_⟩, fun h => (by cases h), fun h => (by cases h), fun h => (by cases h)⟩
        rw [stepC_q, if_neg (fun e => hk e.symm)]
        exact hq
theorem Nth.fold {tab : List Inj} {i : Nat} {x : Inj} (log : List Ev) : ∀ {s : CSt} {c : RSt}, WFC tab s → Nth tab s i x c → Nth tab (log.foldl (stepC tab) s) i x (log.foldl (refStep x) c) := by
  induction log with
  | nil => intro s c _ h; exact h
  | cons y r ih => intro s c hw h; exact ih (hw.step y) (h.step hw y)
theorem get_filter_range {n i : Nat} {p : Nat → Bool} (hi : i < n) (h1 : p i = true) : ((List.range n).filter p)[((List.range i).filter p).length]? = some i := by
  obtain ⟨m, rfl⟩ : ∃ m, n = i + (m + 1) := ⟨n - i - 1, by omega⟩
  rw [List.range_add, List.filter_append, List.getElem?_append_right (Nat.le_refl _), Nat.sub_self, List.range_succ_eq_map]
  simp [h1]
theorem bef_eq {tab : List Inj} {x : Inj} : ∀ {i : Nat}, i ≤ tab.length → ((List.range i).filter fun j => match tab[j]? with | some z => decide (keyOf z = keyOf x) | none => false).length = bef tab i x := by
  intro i
  induction i with
  | zero => intro _; rfl
  | succ i ih =>
    intro hi
    obtain ⟨z, hz⟩ : ∃ z, tab[i]? = some z := ⟨tab[i], List.getElem?_eq_getElem (by omega)⟩
    unfold bef
    rw [List.range_succ, List.filter_append, List.length_append, ih (by omega), List.take_add_one, hz, List.countP_append]
    simp only [List.filter_cons, List.filter_nil, hz, Option.toList_some]
    show bef tab i x + _ = bef tab i x + _
    congr 1
    by_cases hzx : x = z
    · subst hzx; simp
    · have hne : ¬ keyOf z = keyOf x := fun e => hzx (keyOf_inj e).symm
      simp [hzx, hne]
theorem nth_row {tab : List Inj} {log : List Ev} {i : Nat} {x : Inj} (hx : tab[i]? = some x) : (reportC tab log).fires[i]? = some ⟨x, (refF tab i x log).f, (refF tab i x log).d, (refF tab i x log).a⟩ := by
  have hi : i < tab.length := (List.getElem?_eq_some_iff.mp hx).1
  refine (Nth.fold (tab := tab) (i := i) (x := x) log (WFC.init tab) (c := ⟨bef tab i x, false, false, 0⟩) ⟨by simp [initC, hx], fun _ => ⟨rfl, bef tab i x, rfl, ?_⟩, fun h => (by cases h), fun h => (by cases h), fun h => (by cases h)⟩).row
  show (queue0 tab tab.length (keyOf x))[bef tab i x]? = some i
  rw [← bef_eq (by omega)]
  exact get_filter_range hi (by rw [hx]; simp)
theorem refF_take {tab : List Inj} {log : List Ev} {i j : Nat} {x : Inj} {y : Ev} (hy : log[j]? = some y) : refF tab i x (log.take (j + 1)) = refStep x (refF tab i x (log.take j)) y := by
  unfold refF
  rw [List.take_add_one, hy, List.foldl_append]; rfl
end Go.Det.C

/- A row out of what the deterministic reading comes to: slices' weights handed on. -/
namespace Go.Det
set_option linter.unusedVariables false
set_option linter.unusedSimpArgs false
open Go.ChangeShapes Go.WideShapes Go.RowKit
section
variable {P : Program} {A : Type} {enc : TypeId × Value → A} {W : World}
end
end Go.Det
