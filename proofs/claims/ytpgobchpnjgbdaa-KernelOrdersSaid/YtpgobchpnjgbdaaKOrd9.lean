/- Heaps, plainly: what is taken up or down keeps the order, and the same things. -/
import Derived.Test.YtpgobchpnjgbdaaKOrd8
namespace Go.Det.Q
open Go Go.Det Go.Proofs
set_option maxHeartbeats 1000000
set_option linter.unusedVariables false
set_option linter.unusedSimpArgs false
open List
instance : Inhabited Item := ⟨⟨0, 0, 0, 0, 0, 0⟩⟩
def g (l : List Item) (i : Nat) : Item := l.getD i default
theorem g_at {l : List Item} {i : Nat} (h : i < l.length) : l[i]? = some (g l i) := by simp [g, List.getD, List.getElem?_eq_getElem h]
theorem g_of {l : List Item} {i : Nat} {x : Item} (h : l[i]? = some x) : g l i = x := by simp [g, List.getD, h]
theorem g_set {l : List Item} {i j : Nat} {x : Item} (h : i < l.length) : g (l.set i x) j = if i = j then x else g l j := by
  simp only [g, List.getD, List.getElem?_set]
  split
  · rename_i e; subst e; simp [h]
  · rfl
theorem g_mem {l : List Item} {i : Nat} (h : i < l.length) : g l i ∈ l := List.mem_of_getElem? (g_at h)
/-- A thing does not come ahead of the one above. -/
def okAt (l : List Item) (i : Nat) : Prop := ilt (g l i) (g l ((i - 1) / 2)) = false
theorem badAt_ok {l : List Item} {i : Nat} (h : i < l.length) : badAt l i = false ↔ okAt l i := by
  unfold badAt okAt
  rw [g_at h, g_at (by omega)]
def Heap (l : List Item) : Prop := ∀ i, 0 < i → i < l.length → okAt l i
theorem heapB_heap {l : List Item} : heapB l = true ↔ Heap l := by
  rw [heapB_iff]
  exact ⟨fun h i h0 hi => (badAt_ok hi).mp (h i h0 hi), fun h i h0 hi => (badAt_ok hi).mpr (h i h0 hi)⟩
theorem swapL_perm (l : List Item) (i f : Nat) : swapL l i f ~ l := by
  unfold swapL
  split
  · rename_i x y hx hy
    obtain ⟨h1, rfl⟩ := List.getElem?_eq_some_iff.mp hx
    obtain ⟨h2, rfl⟩ := List.getElem?_eq_some_iff.mp hy
    exact List.set_set_perm h1 h2
  · exact Perm.refl _
theorem upL_perm (l : List Item) (i : Nat) : upL l i ~ l := by
  induction i using Nat.strongRecOn generalizing l with
  | _ i ih =>
    unfold upL
    split
    · rename_i h
      split
      · rename_i x y hx hy
        split
        · refine (ih ((i - 1) / 2) (by omega) _).trans ?_
          have := swapL_perm l i ((i - 1) / 2)
          rw [swapL_at hx hy] at this
          exact this
        · exact Perm.refl _
      · exact Perm.refl _
    · exact Perm.refl _
theorem downF_perm : ∀ (n : Nat) (l : List Item) (i : Nat), downF n l i ~ l
  | 0, l, i => Perm.refl _
  | n + 1, l, i => by
    simp only [downF]
    split
    · exact Perm.refl _
    · exact (downF_perm n _ _).trans (swapL_perm _ _ _)
theorem downL_perm (l : List Item) (i : Nat) : downL l i ~ l := downF_perm _ _ _
theorem set_perm {m : List Item} {i : Nat} {y : Item} (h : i < m.length) : m.set i y ~ y :: m.eraseIdx i := by
  rw [List.set_eq_take_append_cons_drop, if_pos h, List.eraseIdx_eq_take_drop_succ]
  exact perm_middle
theorem erase_perm {m : List Item} {i : Nat} {x : Item} (h : m[i]? = some x) : m ~ x :: m.eraseIdx i := by
  obtain ⟨h1, rfl⟩ := List.getElem?_eq_some_iff.mp h
  have := set_perm (m := m) (i := i) (y := m[i]) h1
  rwa [List.set_getElem_self] at this
theorem last_split {l : List Item} (h : 0 < l.length) : l = l.take (l.length - 1) ++ [g l (l.length - 1)] := by
  have h1 := List.take_append_drop (l.length - 1) l
  have h2 : l.drop (l.length - 1) = [g l (l.length - 1)] := by
    rw [List.drop_eq_getElem_cons (by omega), List.drop_eq_nil_of_le (by omega)]
    congr 1
    have := g_at (l := l) (i := l.length - 1) (by omega)
    rw [List.getElem?_eq_getElem (by omega)] at this
    simpa using this
  rw [h2] at h1
  exact h1.symm
theorem moved_perm {l : List Item} {i : Nat} (hi : i < l.length) : (l.set i (g l (l.length - 1))).take (l.length - 1) ~ l.eraseIdx i := by
  have hs := last_split (l := l) (by omega)
  generalize hm : l.take (l.length - 1) = m at hs
  generalize g l (l.length - 1) = y at hs ⊢
  have hml : m.length = l.length - 1 := by rw [← hm, List.length_take]; omega
  rw [← hml]
  by_cases h : i < m.length
  · rw [hs, List.set_append_left _ _ h, List.take_left' (by simp), List.eraseIdx_append_of_lt_length h]
    exact (set_perm h).trans (perm_append_singleton _ _).symm
  · have e : i = m.length := by omega
    subst e
    rw [hs, List.set_append_right _ _ (Nat.le_refl _), List.take_left, List.eraseIdx_append_of_length_le (Nat.le_refl _)]
    simp
theorem withoutL_perm {l : List Item} {i : Nat} (hi : i < l.length) : withoutL l i ~ l.eraseIdx i := by
  unfold withoutL
  rw [g_at (by omega)]
  simp only
  split
  · exact ((upL_perm _ _).trans (downL_perm _ _)).trans (moved_perm hi)
  · exact moved_perm hi
/-! ### order -/
theorem upL_heap : ∀ (i : Nat) (l : List Item), i < l.length → (∀ j, 0 < j → j < l.length → j ≠ i → okAt l j) → (0 < i → ∀ c, 0 < c → c < l.length → (c - 1) / 2 = i → ilt (g l c) (g l ((i - 1) / 2)) = false) → Heap (upL l i) := by
  intro i
  induction i using Nat.strongRecOn with
  | _ i ih =>
    intro l hi hok hch
    by_cases h0 : 0 < i
    · have ha : (i - 1) / 2 < l.length := by omega
      cases hlt : ilt (g l i) (g l ((i - 1) / 2)) with
      | false =>
        rw [upL_stop h0 (g_at hi) (g_at ha) hlt]
        intro j hj0 hj
        by_cases e : j = i
        · subst e; exact hlt
        · exact hok j hj0 hj e
      | true =>
        rw [upL_go h0 (g_at hi) (g_at ha) hlt]
        generalize hav : (i - 1) / 2 = a at *
        have hai : a < i := by omega
        have gs : ∀ j, g ((l.set i (g l a)).set a (g l i)) j = if j = a then g l i else if j = i then g l a else g l j := by
          intro j
          rw [g_set (by simp; exact ha), g_set hi]
          by_cases e1 : j = a
          · subst e1; simp
          · rw [if_neg (fun e => e1 e.symm), if_neg e1]
            by_cases e2 : j = i
            · subst e2; simp
            · rw [if_neg (fun e => e2 e.symm), if_neg e2]
        have hlen : ((l.set i (g l a)).set a (g l i)).length = l.length := by simp
        refine ih a hai _ (by rw [hlen]; exact ha) ?_ ?_
        · intro j hj0 hj hja
          rw [hlen] at hj
          unfold okAt
          rw [gs, gs, if_neg hja]
          by_cases e1 : j = i
          · subst e1
            rw [if_pos rfl, hav, if_pos rfl]
            exact ilt_asym hlt
          · rw [if_neg e1]
            by_cases e2 : (j - 1) / 2 = a
            · rw [if_pos e2]
              have h1 := hok j hj0 hj e1
              unfold okAt at h1
              rw [e2] at h1
              exact nlt_trans (ilt_asym hlt) h1
            · rw [if_neg e2]
              by_cases e3 : (j - 1) / 2 = i
              · rw [if_pos e3]
                exact hch h0 j hj0 hj e3
              · rw [if_neg e3]
                exact hok j hj0 hj e1
        · intro ha0 c hc0 hc hca
          rw [hlen] at hc
          have hoka := hok a ha0 ha (by omega)
          unfold okAt at hoka
          rw [gs, gs, if_neg (show (a - 1) / 2 ≠ a by omega), if_neg (show (a - 1) / 2 ≠ i by omega), if_neg (show c ≠ a by omega)]
          by_cases e1 : c = i
          · rw [if_pos e1]
            exact hoka
          · rw [if_neg e1]
            have h1 := hok c hc0 hc e1
            unfold okAt at h1
            rw [hca] at h1
            exact nlt_trans hoka h1
    · have e : i = 0 := by omega
      subst e
      rw [upL_zero]
      intro j hj0 hj
      exact hok j hj0 hj (by omega)
theorem lessAt_g {l : List Item} {a b : Nat} (ha : a < l.length) (hb : b < l.length) : lessAt l a b = ilt (g l a) (g l b) := lessAt_at (g_at ha) (g_at hb)
/-- Which of a thing and those below it comes first. -/
theorem firstL_spec {l : List Item} {k : Nat} (hk : k < l.length) : (firstL l k = k ∧ ∀ c, 0 < c → c < l.length → (c - 1) / 2 = k → ilt (g l c) (g l k) = false) ∨
    (∃ f, firstL l k = f ∧ k < f ∧ f < l.length ∧ (f - 1) / 2 = k ∧ ilt (g l f) (g l k) = true ∧ ∀ c, 0 < c → c < l.length → (c - 1) / 2 = k → ilt (g l c) (g l f) = false) := by
  have ch : ∀ c, 0 < c → (c - 1) / 2 = k → c = 2 * k + 1 ∨ c = 2 * k + 2 := by intro c h0 h; omega
  unfold firstL
  by_cases h1 : 2 * k + 1 < l.length
  · cases e1 : ilt (g l (2 * k + 1)) (g l k) with
    | true =>
      have f1 : first1 l k = 2 * k + 1 := by unfold first1; rw [lessAt_g h1 hk, e1]; rfl
      rw [f1]
      by_cases h2 : 2 * k + 2 < l.length
      · rw [lessAt_g h2 h1]
        cases e2 : ilt (g l (2 * k + 2)) (g l (2 * k + 1)) with
        | true =>
          rw [if_pos rfl]
          refine .inr ⟨_, rfl, by omega, h2, by omega, ilt_trans e2 e1, fun c h0 hc hck => ?_⟩
          rcases ch c h0 hck with rfl | rfl
          · exact ilt_asym e2
          · exact ilt_irrefl _
        | false =>
          rw [if_neg (by simp)]
          refine .inr ⟨_, rfl, by omega, h1, by omega, e1, fun c h0 hc hck => ?_⟩
          rcases ch c h0 hck with rfl | rfl
          · exact ilt_irrefl _
          · exact e2
      · rw [lessAt_out (by omega)]
        refine .inr ⟨2 * k + 1, rfl, by omega, h1, by omega, e1, fun c h0 hc hck => ?_⟩
        rcases ch c h0 hck with rfl | rfl
        · exact ilt_irrefl _
        · omega
    | false =>
      have f1 : first1 l k = k := by unfold first1; rw [lessAt_g h1 hk, e1]; rfl
      rw [f1]
      by_cases h2 : 2 * k + 2 < l.length
      · rw [lessAt_g h2 hk]
        cases e2 : ilt (g l (2 * k + 2)) (g l k) with
        | true =>
          rw [if_pos rfl]
          refine .inr ⟨_, rfl, by omega, h2, by omega, e2, fun c h0 hc hck => ?_⟩
          rcases ch c h0 hck with rfl | rfl
          · exact nlt_trans (ilt_asym e2) e1
          · exact ilt_irrefl _
        | false =>
          rw [if_neg (by simp)]
          refine .inl ⟨rfl, fun c h0 hc hck => ?_⟩
          rcases ch c h0 hck with rfl | rfl
          · exact e1
          · exact e2
      · rw [lessAt_out (by omega)]
        refine .inl ⟨rfl, fun c h0 hc hck => ?_⟩
        rcases ch c h0 hck with rfl | rfl
        · exact e1
        · omega
  · have f1 : first1 l k = k := by unfold first1; rw [lessAt_out (by omega)]; rfl
    rw [f1, lessAt_out (by omega)]
    refine .inl ⟨rfl, fun c h0 hc hck => ?_⟩
    rcases ch c h0 hck with rfl | rfl <;> omega
theorem downF_heap (m : Nat) : ∀ (f : Nat) (l : List Item) (k : Nat), k < l.length → l.length ≤ k + f → m ≤ k → (∀ j, 0 < j → j < l.length → m ≤ (j - 1) / 2 → (j - 1) / 2 ≠ k → okAt l j) →
    (0 < k → m ≤ (k - 1) / 2 → ∀ c, 0 < c → c < l.length → (c - 1) / 2 = k → ilt (g l c) (g l ((k - 1) / 2)) = false) → ∀ j, 0 < j → j < l.length → m ≤ (j - 1) / 2 → okAt (downF f l k) j
  | 0, l, k, hk, hf, _, _, _, j, _, _, _ => by omega
  | f + 1, l, k, hk, hf, hmk, hok, hch, j, hj0, hj, hjm => by
    rcases firstL_spec hk with ⟨h1, h2⟩ | ⟨c, h1, h2, h3, h4, h5, h6⟩
    · simp only [downF, h1, if_true]
      by_cases e : (j - 1) / 2 = k
      · unfold okAt; rw [e]; exact h2 j hj0 hj e
      · exact hok j hj0 hj hjm e
    · have hne : ¬ c = k := by omega
      simp only [downF, h1]
      rw [if_neg hne, swapL_at (g_at hk) (g_at h3)]
      have gs : ∀ j, g ((l.set k (g l c)).set c (g l k)) j = if j = c then g l k else if j = k then g l c else g l j := by
        intro j
        rw [g_set (by simp; exact h3), g_set hk]
        by_cases e1 : j = c
        · subst e1; simp
        · rw [if_neg (fun e => e1 e.symm), if_neg e1]
          by_cases e2 : j = k
          · subst e2; simp
          · rw [if_neg (fun e => e2 e.symm), if_neg e2]
      have hlen : ((l.set k (g l c)).set c (g l k)).length = l.length := by simp
      refine downF_heap m f _ c (by rw [hlen]; exact h3) (by rw [hlen]; omega) (by omega) ?_ ?_ j hj0 (by rw [hlen]; exact hj) hjm
      · intro j hj0 hj hjm hjc
        rw [hlen] at hj
        unfold okAt
        rw [gs, gs]
        rw [if_neg hjc]
        by_cases e1 : (j - 1) / 2 = k
        · rw [if_pos e1]
          by_cases e2 : j = c
          · rw [if_pos e2]; exact ilt_asym h5
          · rw [if_neg e2, if_neg (by omega)]
            exact h6 j hj0 hj e1
        · rw [if_neg e1]
          have hjc' : j ≠ c := fun e => by subst e; exact e1 h4
          rw [if_neg hjc']
          by_cases e2 : j = k
          · rw [if_pos e2]
            subst e2
            exact hch hj0 hjm c (by omega) h3 h4
          · rw [if_neg e2]
            exact hok j hj0 hj hjm e1
      · intro _ _ d hd0 hd hdc
        rw [hlen] at hd
        rw [gs, gs, if_neg (show d ≠ c by omega), if_neg (show d ≠ k by omega), h4, if_neg (fun e => hne e.symm), if_pos rfl]
        have := hok d hd0 hd (by omega) (by omega)
        unfold okAt at this
        rw [hdc] at this
        exact this
theorem pushL_heap {l : List Item} {x : Item} (h : Heap l) : Heap (upL (l ++ [x]) l.length) := by
  have gl : ∀ j, j < l.length → g (l ++ [x]) j = g l j := fun j hj => g_of (by rw [List.getElem?_append_left hj]; exact g_at hj)
  refine upL_heap l.length _ (by simp) (fun j h0 hj hne => ?_) (fun h0 c hc0 hc hcl => ?_)
  · have hj' : j < l.length := by simp at hj; omega
    unfold okAt
    rw [gl j hj', gl _ (by omega)]
    exact h j h0 hj'
  · simp at hc; omega
theorem withoutL_heap {l : List Item} {i : Nat} (h : Heap l) (hi : i < l.length) : Heap (withoutL l i) := by
  unfold withoutL
  rw [g_at (by omega)]
  simp only
  generalize hy : g l (l.length - 1) = y
  have gm : ∀ j, j < l.length - 1 → g ((l.set i y).take (l.length - 1)) j = if j = i then y else g l j := by
    intro j hj
    have : ((l.set i y).take (l.length - 1))[j]? = some (if j = i then y else g l j) := by
      rw [List.getElem?_take, if_pos hj, List.getElem?_set]
      by_cases e : i = j
      · subst e; simp [hi]
      · rw [if_neg e, if_neg (fun e' => e e'.symm)]
        exact g_at (by omega)
    exact g_of this
  have hlen : ((l.set i y).take (l.length - 1)).length = l.length - 1 := by simp
  generalize hm : (l.set i y).take (l.length - 1) = m at *
  split
  · rename_i hil
    -- all but i and those below it
    have hother : ∀ j, 0 < j → j < m.length → j ≠ i → (j - 1) / 2 ≠ i → okAt m j := by
      intro j h0 hj h1 h2
      rw [hlen] at hj
      unfold okAt
      rw [gm j hj, gm _ (by omega), if_neg h1, if_neg h2]
      exact h j h0 (by omega)
    by_cases hup : 0 < i ∧ ilt y (g l ((i - 1) / 2)) = true
    · -- it goes up
      obtain ⟨h0, hlt⟩ := hup
      have hpi := h i h0 hi
      unfold okAt at hpi
      have hch : ∀ c, 0 < c → c < m.length → (c - 1) / 2 = i → ilt (g m c) (g l ((i - 1) / 2)) = false := by
        intro c hc0 hc hci
        rw [hlen] at hc
        rw [gm c hc, if_neg (by omega)]
        have := h c hc0 (by omega)
        unfold okAt at this
        rw [hci] at this
        exact nlt_trans hpi this
      have hchy : ∀ c, 0 < c → c < m.length → (c - 1) / 2 = i → ilt (g m c) y = false := fun c h1 h2 h3 => nlt_trans (ilt_asym hlt) (hch c h1 h2 h3)
      have hdown : downL m i = m := by
        have hil' : i < m.length := by omega
        unfold downL
        obtain ⟨n, hn⟩ : ∃ n, m.length = n + 1 := ⟨m.length - 1, by omega⟩
        rw [hn]
        rcases firstL_spec hil' with ⟨h1, _⟩ | ⟨c, h1, h2, h3, h4, h5, h6⟩
        · simp only [downF, h1, if_true]
        · exfalso
          have e := hchy c (by omega) h3 h4
          have e2 : g m i = y := by rw [gm i (by omega), if_pos rfl]
          rw [e2, e] at h5
          cases h5
      rw [hdown]
      refine upL_heap i m (by omega) (fun j hj0 hj hji => ?_) (fun _ c hc0 hc hci => ?_)
      · by_cases e : (j - 1) / 2 = i
        · unfold okAt
          rw [e, gm i (by omega), if_pos rfl]
          exact hchy j hj0 hj e
        · exact hother j hj0 hj hji e
      · rw [gm ((i - 1) / 2) (by omega), if_neg (by omega)]
        exact hch c hc0 hc hci
    · -- it goes down
      have hoki : 0 < i → okAt m i := by
        intro h0
        unfold okAt
        rw [gm i (by omega), if_pos rfl, gm _ (by omega), if_neg (by omega)]
        cases e : ilt y (g l ((i - 1) / 2))
        · rfl
        · exact absurd ⟨h0, e⟩ hup
      have hd : Heap (downL m i) := by
        intro j hj0 hj
        rw [downL_length] at hj
        refine downF_heap 0 m.length m i (by omega) (by omega) (Nat.zero_le _) (fun j h0 hj _ hne => ?_) (fun h0 _ c hc0 hc hci => ?_) j hj0 hj (Nat.zero_le _)
        · by_cases e : j = i
          · subst e; exact hoki h0
          · exact hother j h0 hj e hne
        · rw [hlen] at hc
          rw [gm c hc, if_neg (by omega), gm _ (by omega), if_neg (by omega)]
          have h1 := h i h0 hi
          have h2 := h c hc0 (by omega)
          unfold okAt at h1 h2
          rw [hci] at h2
          exact nlt_trans h1 h2
      refine upL_heap i _ (by rw [downL_length]; omega) (fun j h0 hj _ => hd j h0 hj) (fun h0 c hc0 hc hci => ?_)
      have h1 := hd c hc0 hc
      have h2 := hd i h0 (by rw [downL_length]; omega)
      unfold okAt at h1 h2
      rw [hci] at h1
      exact nlt_trans h2 h1
  · rename_i hil
    intro j h0 hj
    rw [hlen] at hj
    unfold okAt
    rw [gm j hj, gm _ (by omega), if_neg (by omega), if_neg (by omega)]
    exact h j h0 (by omega)
/-- The first of a heap comes first. -/
theorem heap_first {l : List Item} (h : Heap l) : ∀ i, i < l.length → ilt (g l i) (g l 0) = false := by
  intro i
  induction i using Nat.strongRecOn with
  | _ i ih =>
    intro hi
    by_cases h0 : i = 0
    · subst h0; exact ilt_irrefl _
    · have h1 := ih ((i - 1) / 2) (by omega) (by omega)
      have h2 := h i (by omega) hi
      unfold okAt at h2
      exact nlt_trans h1 h2
/-! ### sorted -/
def Sorted (l : List Item) : Prop := l.Pairwise fun x y => ilt y x = false
theorem putL_perm (l : List Item) (x : Item) : putL l x ~ x :: l := by
  unfold putL
  have := List.takeWhile_append_dropWhile (p := fun y => !ilt x y) (l := l)
  conv => rhs; rw [← this]
  exact perm_middle
theorem foldl_putL_perm : ∀ (l m : List Item), l.foldl putL m ~ l ++ m
  | [], m => Perm.refl _
  | x :: l, m => by
    rw [List.foldl_cons]
    refine (foldl_putL_perm l _).trans ?_
    refine ((putL_perm m x).append_left l).trans ?_
    exact perm_middle
theorem sortL_perm (l : List Item) : sortL l ~ l := by have := foldl_putL_perm l []; rwa [List.append_nil] at this
theorem putL_sorted {l : List Item} (h : Sorted l) (x : Item) : Sorted (putL l x) := by
  induction l with
  | nil => unfold putL Sorted; simp
  | cons y l ih =>
    unfold Sorted at h
    rw [List.pairwise_cons] at h
    unfold putL
    cases hxy : ilt x y with
    | true =>
      rw [List.takeWhile_cons, List.dropWhile_cons]
      simp only [hxy, Bool.not_true, Bool.false_eq_true, if_false, List.nil_append]
      unfold Sorted
      rw [List.pairwise_cons, List.pairwise_cons]
      refine ⟨fun z hz => ?_, h⟩
      rcases List.mem_cons.mp hz with rfl | hz
      · exact ilt_asym hxy
      · exact nlt_trans (ilt_asym hxy) (h.1 z hz)
    | false =>
      rw [List.takeWhile_cons, List.dropWhile_cons]
      simp only [hxy, Bool.not_false, if_true, List.cons_append]
      have ih' := ih h.2
      unfold putL at ih'
      unfold Sorted at ih' ⊢
      rw [List.pairwise_cons]
      refine ⟨fun z hz => ?_, ih'⟩
      have hz' : z ∈ x :: l := (putL_perm l x).mem_iff.mp hz
      rcases List.mem_cons.mp hz' with rfl | hz'
      · exact hxy
      · exact h.1 z hz'
theorem foldl_putL_sorted : ∀ (l m : List Item), Sorted m → Sorted (l.foldl putL m)
  | [], m, h => h
  | x :: l, m, h => by rw [List.foldl_cons]; exact foldl_putL_sorted l _ (putL_sorted h x)
theorem sortL_sorted (l : List Item) : Sorted (sortL l) := foldl_putL_sorted l [] .nil
theorem sorted_eq {l m : List Item} (h : Sorted l) (k : Sorted m) (hp : l ~ m) : l = m := Perm.eq_of_pairwise (le := fun x y => ilt y x = false) (fun a b _ _ h1 h2 => ilt_total h2 h1) h k hp
theorem sortL_congr {l m : List Item} (h : l ~ m) : sortL l = sortL m := sorted_eq (sortL_sorted l) (sortL_sorted m) (((sortL_perm l).trans h).trans (sortL_perm m).symm)
theorem sortL_of_perm {l m : List Item} (hp : l ~ m) (h : Sorted m) : sortL l = m := sorted_eq (sortL_sorted l) h ((sortL_perm l).trans hp)
/-- The first of a heap is the first, sorted. -/
theorem sortL_first {l : List Item} (h : Heap l) {x : Item} (hx : l[0]? = some x) : ∃ t, sortL l = x :: t ∧ withoutL l 0 ~ t ∧ Sorted t := by
  have h0 := (List.getElem?_eq_some_iff.mp hx).1
  have hxg := g_of hx
  cases hs : sortL l with
  | nil => have := sortL_length l; rw [hs] at this; simp at this; omega
  | cons y t =>
    have hsrt := sortL_sorted l
    rw [hs] at hsrt
    unfold Sorted at hsrt
    rw [List.pairwise_cons] at hsrt
    have hp := sortL_perm l
    rw [hs] at hp
    have e : y = x := by
      have hy : y ∈ l := hp.mem_iff.mp (by simp)
      have hx' : x ∈ y :: t := hp.mem_iff.mpr (List.mem_of_getElem? hx)
      obtain ⟨i, hi, rfl⟩ := List.getElem_of_mem hy
      have h1 := heap_first h i hi
      rw [hxg, g_of (List.getElem?_eq_getElem hi)] at h1
      rcases List.mem_cons.mp hx' with e | e
      · exact e.symm
      · exact ilt_total h1 (hsrt.1 x e)
    subst e
    refine ⟨t, rfl, (withoutL_perm h0).trans ?_, hsrt.2⟩
    exact (Perm.cons_inv (hp.trans (erase_perm hx))).symm
/-! ### what has a number -/
theorem takeF_spec (l : List Item) (q : Int) : ∀ k, k ≤ l.length → (takeF l q k < 0 ∧ ∀ i, i < k → ((g l i).s == q) = false) ∨
    (∃ a : Nat, takeF l q k = (a : Int) ∧ a < k ∧ (g l a).s = q ∧ ∀ i, i < k → (g l i).s = q → ilt (g l i) (g l a) = false)
  | 0, _ => .inl ⟨by simp [takeF], fun i h => by omega⟩
  | k + 1, hk => by
    have ih := takeF_spec l q k (by omega)
    have hx := g_at (l := l) (i := k) (by omega)
    cases hq : (g l k).s == q with
    | false =>
      have e : takeF l q (k + 1) = takeF l q k := by simp only [takeF, hx, hq, Bool.false_and]; rfl
      rw [e]
      have hqn : (g l k).s ≠ q := by simpa using hq
      rcases ih with ⟨h1, h2⟩ | ⟨a, h1, h2, h3, h4⟩
      · exact .inl ⟨h1, fun i hi => by
          by_cases ei : i = k
          · subst ei; exact hq
          · exact h2 i (by omega)⟩
      · exact .inr ⟨a, h1, by omega, h3, fun i hi hiq => by
          by_cases ei : i = k
          · subst ei; exact absurd hiq hqn
          · exact h4 i (by omega) hiq⟩
    | true =>
      have hqe : (g l k).s = q := by simpa using hq
      rcases ih with ⟨h1, h2⟩ | ⟨a, h1, h2, h3, h4⟩
      · have e : takeF l q (k + 1) = (k : Int) := by simp only [takeF, hx, hq, decide_eq_true h1]; rfl
        refine .inr ⟨k, e, by omega, hqe, fun i hi hiq => ?_⟩
        by_cases ei : i = k
        · subst ei; exact ilt_irrefl _
        · have := h2 i (by omega); rw [hiq] at this; simp at this
      · have hnn : ¬ takeF l q k < 0 := by omega
        have e : takeF l q (k + 1) = if ilt (g l k) (g l a) then (k : Int) else (a : Int) := by
          simp only [takeF, hx, hq, decide_eq_false hnn, h1, Int.toNat_natCast, g_at (l := l) (i := a) (by omega)]
          rfl
        cases hlt : ilt (g l k) (g l a) with
        | true =>
          rw [hlt, if_pos rfl] at e
          refine .inr ⟨k, e, by omega, hqe, fun i hi hiq => ?_⟩
          by_cases ei : i = k
          · subst ei; exact ilt_irrefl _
          · exact nlt_trans (ilt_asym hlt) (h4 i (by omega) hiq)
        | false =>
          rw [hlt, if_neg (by simp)] at e
          refine .inr ⟨a, e, by omega, h3, fun i hi hiq => ?_⟩
          by_cases ei : i = k
          · subst ei; exact hlt
          · exact h4 i (by omega) hiq
end Go.Det.Q
