/- MediumGarbles: the plain law. -/
import Derived.Test.YtphnddoneocfhaaM12
namespace Go.Det.M11
open Go Go.Det Go.Proofs
set_option maxRecDepth 4000
set_option maxHeartbeats 4000000
set_option linter.unusedVariables false
set_option linter.unusedSimpArgs false

/-- The same but for where its bytes lie, and whether it is garbled. -/
structure AirV.like (a b : AirV) : Prop where
  id : a.id = b.id
  fr : a.fr = b.fr
  ch : a.ch = b.ch
  at_ : a.at_ = b.at_
  en : a.en = b.en
  n : a.n = b.n
  le : a.le = b.le

theorem AirV.like.meet {a b x y : AirV} (h : a.like b) (k : x.like y) : a.meet x = b.meet y := by
  unfold AirV.meet; rw [h.ch, h.at_, h.en, k.ch, k.at_, k.en]
theorem AirV.like.off {a b : AirV} (h : a.like b) : a.off = b.off := by
  unfold AirV.off; rw [h.fr, h.ch, h.at_, h.en, h.n, h.le]
theorem AirV.like_refl (a : AirV) : a.like a := ⟨rfl, rfl, rfl, rfl, rfl, rfl, rfl⟩
theorem meet_comm (a x : AirV) : a.meet x = x.meet a := by
  unfold AirV.meet meetB
  rw [Bool.eq_iff_iff]
  simp only [Bool.and_eq_true, decide_eq_true_eq]
  omega

/-- Does the thing of a place meet it? -/
def mt (A : List AirV) (j : Nat) (a : AirV) : Bool := match A[j]? with
  | some y => a.meet y
  | none => false
/-- Does it meet another one of the first ones? -/
def others (A : List AirV) (i : Nat) (a : AirV) (k : Nat) : Bool := (List.range k).any fun j => (j != i) && mt A j a

theorem others_step (A : List AirV) (i : Nat) (a : AirV) (k : Nat) : others A i a (k + 1) = (others A i a k || ((k != i) && mt A k a)) := by
  unfold others
  rw [List.range_succ, List.any_append]
  simp

theorem others_eq {A B : List AirV} {i : Nat} {a b : AirV} : ∀ (k : Nat), (∀ j, j < k → j ≠ i → mt A j a = mt B j b) → others A i a k = others B i b k
  | 0, _ => rfl
  | k + 1, h => by
    rw [others_step, others_step, others_eq k fun j hj => h j (by omega)]
    by_cases e : k = i
    · simp [e]
    · rw [h k (by omega) e]

theorem others_any (A : List AirV) (i : Nat) (a : AirV) : ∀ (k : Nat), k ≤ i → k ≤ A.length → others A i a k = (A.take k).any fun y => y.meet a
  | 0, _, _ => rfl
  | k + 1, h, h' => by
    rw [others_step, others_any A i a k (by omega) (by omega), List.take_add_one, List.getElem?_eq_getElem (by omega)]
    have : (k != i) = true := by simp; omega
    rw [this]
    simp only [mt, List.getElem?_eq_getElem (show k < A.length by omega), Bool.true_and, Option.toList, List.any_append, List.any_cons, List.any_nil, Bool.or_false]
    rw [meet_comm a]

/-- What holds of the things that were launched, of the first k. -/
structure Good (L A : List AirV) (k : Nat) : Prop where
  ck : checkI A = 0
  len : A.length ≤ k
  id : ∀ (i : Nat) (a : AirV), A[i]? = some a → ∃ (j : Nat) (y : AirV), j < k ∧ a.id = (j : Int) ∧ L[j]? = some y ∧ a.bad = (y.bad || others A i a A.length)

theorem good_more {L A : List AirV} {k : Nat} (h : Good L A k) : Good L A (k + 1) :=
  ⟨h.ck, by have := h.len; omega, fun i a ha => by
    obtain ⟨j, y, h1, h2⟩ := h.id i a ha
    exact ⟨j, y, by omega, h2⟩⟩

theorem checkI_iff (l : List AirV) : checkI l = 0 ↔ l.length ≤ 256 ∧ (∀ a ∈ l, a.off = false) ∧ ∀ (j : Nat) (a b : AirV), l[j]? = some a → l[j + 1]? = some b → a.id < b.id := by
  unfold checkI
  rw [← inc_iff]
  have e : l.any AirV.off = false ↔ ∀ a ∈ l, a.off = false := by rw [List.any_eq_false]; simp
  rw [← e]
  split
  · rename_i h; simp [h]
  · rename_i h; simp only [Int.reduceEq, false_iff]; exact h

/-- What a launch that is in form answers, place by place. -/
theorem launched_at {A A' : List AirV} {x x' : AirV} (hs : Sim A A') (hx : x'.like x) (hb : x'.bad = x.bad) (i : Nat) (b : AirV) (h : (part A' x' x A.length)[i]? = some b) :
    (∃ a, A[i]? = some a ∧ b.like a ∧ b.bad = (a.bad || a.meet x)) ∨ (i = A.length ∧ b.like x ∧ b.bad = (x.bad || A.any fun a => a.meet x)) := by
  rw [part_at _ _ _ _ _ (by rw [hs.1]; omega), hs.1] at h
  split at h
  · rename_i hi
    left
    obtain ⟨a, ha⟩ : ∃ a, A[i]? = some a := ⟨A[i], List.getElem?_eq_getElem hi⟩
    obtain ⟨p, c, e, h1⟩ := hs.2 i a ha
    rw [h1] at h
    cases h
    exact ⟨a, ha, ⟨rfl, rfl, rfl, rfl, rfl, rfl, rfl⟩, rfl⟩
  · split at h
    · rename_i h1 hi
      right
      cases h
      refine ⟨hi, ⟨hx.id, hx.fr, hx.ch, hx.at_, hx.en, hx.n, hx.le⟩, ?_⟩
      simp only [AirV.setBad, hb]
      congr 1
      rw [← hs.1, List.take_length]
      rw [Bool.eq_iff_iff, List.any_eq_true, List.any_eq_true]
      constructor
      · rintro ⟨a, ha, hm⟩
        obtain ⟨j, hj, rfl⟩ := List.getElem_of_mem ha
        have hj' : j < A.length := by rw [← hs.1]; exact hj
        obtain ⟨p, c, e, h1⟩ := hs.2 j A[j] (List.getElem?_eq_getElem hj')
        rw [List.getElem?_eq_getElem hj] at h1
        have h2 := Option.some.inj h1
        rw [h2] at hm
        exact ⟨A[j], List.getElem_mem hj', hm⟩
      · rintro ⟨a, ha, hm⟩
        obtain ⟨j, hj, rfl⟩ := List.getElem_of_mem ha
        obtain ⟨p, c, e, h1⟩ := hs.2 j A[j] (List.getElem?_eq_getElem hj)
        exact ⟨_, List.mem_of_getElem? h1, hm⟩
    · cases h

theorem launchE_zero {A : List AirV} {x : AirV} (h : launchE A x = 0) : checkI A = 0 ∧ x.off = false ∧ A.length ≠ 256 ∧ ∀ a, A[A.length - 1]? = some a → a.id < x.id := by
  unfold launchE at h
  split at h
  · cases h
  · rename_i hb
    split at h
    · cases h
    · rename_i hn
      unfold launchBad at hb
      simp only [Bool.or_eq_true, not_or, Bool.not_eq_true, bne_eq_false_iff_eq] at hb
      refine ⟨hb.1.1, hb.1.2, hn, fun a ha => ?_⟩
      have := hb.2
      rw [ha] at this
      simp only [decide_eq_false_iff_not] at this
      omega

theorem launched_check {A A' : List AirV} {x x' : AirV} (hs : Sim A A') (hx : x'.like x) (hb : x'.bad = x.bad) (hE : launchE A x = 0) : checkI (part A' x' x A.length) = 0 := by
  obtain ⟨h1, h2, h3, h4⟩ := launchE_zero hE
  rw [checkI_iff] at h1 ⊢
  have hl := part_length A' x' x A.length (by rw [hs.1]; omega)
  rw [hs.1] at hl
  refine ⟨by omega, fun b hb' => ?_, fun j a b ha hb' => ?_⟩
  · obtain ⟨i, hi, rfl⟩ := List.getElem_of_mem hb'
    rcases launched_at hs hx hb i _ (List.getElem?_eq_getElem hi) with ⟨a, ha, hl, _⟩ | ⟨_, hl, _⟩
    · rw [hl.off]; exact h1.2.1 a (List.mem_of_getElem? ha)
    · rw [hl.off]; exact h2
  · rcases launched_at hs hx hb j _ ha with ⟨a', ha', hl, _⟩ | ⟨hi, _, _⟩
    · rcases launched_at hs hx hb (j + 1) _ hb' with ⟨b', hb'', hl', _⟩ | ⟨hi, hl', _⟩
      · rw [hl.id, hl'.id]; exact h1.2.2 j a' b' ha' hb''
      · rw [hl.id, hl'.id]
        exact h4 a' (by rw [← hi]; simpa using ha')
    · have := (List.getElem?_eq_some_iff.mp hb').1
      omega

theorem good_step {L A A' : List AirV} {k : Nat} {x x' y : AirV} (h : Good L A k) (hy : L[k]? = some y) (hid : x.id = (k : Int)) (hxb : x.bad = y.bad) (hs : Sim A A') (hx : x'.like x) (hb : x'.bad = x.bad) (hE : launchE A x = 0) : Good L (part A' x' x A.length) (k + 1) := by
  have hl := part_length A' x' x A.length (by rw [hs.1]; omega)
  rw [hs.1] at hl
  have hmt : ∀ (b a : AirV), b.like a → ∀ j, j < A.length → mt (part A' x' x A.length) j b = mt A j a := by
    intro b a hba j hj
    unfold mt
    obtain ⟨c, hc⟩ : ∃ c, (part A' x' x A.length)[j]? = some c := ⟨_, List.getElem?_eq_getElem (by omega)⟩
    rcases launched_at hs hx hb j c hc with ⟨d, hd, hl, _⟩ | ⟨hi, _, _⟩
    · rw [hc, hd]; exact hba.meet hl
    · omega
  have hlast : ∃ c, (part A' x' x A.length)[A.length]? = some c ∧ c.like x := by
    obtain ⟨c, hc⟩ : ∃ c, (part A' x' x A.length)[A.length]? = some c := ⟨_, List.getElem?_eq_getElem (by omega)⟩
    rcases launched_at hs hx hb _ c hc with ⟨d, hd, _⟩ | ⟨_, hl, _⟩
    · have := (List.getElem?_eq_some_iff.mp hd).1; omega
    · exact ⟨c, hc, hl⟩
  obtain ⟨c, hc, hcl⟩ := hlast
  refine ⟨launched_check hs hx hb hE, by have := h.len; omega, fun i b hb' => ?_⟩
  rw [hl, others_step]
  rcases launched_at hs hx hb i b hb' with ⟨a, ha, hbl, hbb⟩ | ⟨hi, hbl, hbb⟩
  · obtain ⟨j, y', h1, h2, h3, h4⟩ := h.id i a ha
    refine ⟨j, y', by omega, by rw [hbl.id]; exact h2, h3, ?_⟩
    rw [hbb, h4, others_eq A.length fun j hj _ => hmt b a hbl j hj]
    have hin := (List.getElem?_eq_some_iff.mp ha).1
    have : (A.length != i) = true := by simp; omega
    rw [this, Bool.true_and, Bool.or_assoc]
    congr 2
    unfold mt
    rw [hc]
    exact (hbl.meet hcl).symm
  · refine ⟨k, y, by omega, by rw [hbl.id]; exact hid, hy, ?_⟩
    rw [hbb, hxb]
    congr 1
    subst hi
    rw [others_eq A.length fun j hj _ => hmt b x hbl j hj, others_any A _ x _ (Nat.le_refl _) (Nat.le_refl _), List.take_length]
    simp

end Go.Det.M11
