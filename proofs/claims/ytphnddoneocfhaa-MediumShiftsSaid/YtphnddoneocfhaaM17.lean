/- MediumShifts: the plain law. -/
import Derived.Test.YtphnddoneocfhaaM16
namespace Go.Det.M11
open Go Go.Det Go.Proofs
set_option maxRecDepth 4000
set_option maxHeartbeats 4000000
set_option linter.unusedVariables false
set_option linter.unusedSimpArgs false

theorem wrap_small {x : Int} (h : -9223372036854775808 ≤ x ∧ x ≤ 9223372036854775807) : IntKind.i64.wrap x = x := by
  unfold IntKind.wrap
  simp [IntKind.signed, IntKind.bits]
  omega

/-- A thing so much later, as the program adds. -/
def AirV.late (d : Int) (a : AirV) : AirV := { a with at_ := IntKind.i64.wrap (a.at_ + IntKind.i64.wrap d), en := IntKind.i64.wrap (a.en + IntKind.i64.wrap d) }

theorem off_fits {a : AirV} (h : a.off = false) : 0 ≤ a.at_ ∧ a.at_ < a.en ∧ a.en ≤ 1152921504606846976 := by
  unfold AirV.off fitB okT at h
  simp only [Bool.not_eq_false', Bool.and_eq_true, decide_eq_true_eq] at h
  omega

theorem late_eq {d : Int} (hd : 0 ≤ d ∧ d ≤ 4294967295) {a : AirV} (h : a.off = false) (hen : a.en ≤ 1125899906842624) : (a.late d).at_ = a.at_ + d ∧ (a.late d).en = a.en + d := by
  have h1 := off_fits h
  unfold AirV.late
  simp only
  rw [wrap_small (x := d) (by omega), wrap_small (by omega), wrap_small (by omega)]
  exact ⟨rfl, rfl⟩

theorem late_off {d : Int} (hd : 0 ≤ d ∧ d ≤ 4294967295) {a : AirV} (h : a.off = false) (hen : a.en ≤ 1125899906842624) : (a.late d).off = false := by
  obtain ⟨h1, h2⟩ := late_eq hd h hen
  have h3 := h
  unfold AirV.off fitB okT at h3 ⊢
  simp only [Bool.not_eq_false', Bool.and_eq_true, decide_eq_true_eq] at h3 ⊢
  have e1 : (a.late d).fr = a.fr := rfl
  have e2 : (a.late d).ch = a.ch := rfl
  have e3 : (a.late d).n = a.n := rfl
  have e4 : (a.late d).le = a.le := rfl
  rw [h1, h2, e1, e2, e3, e4]
  omega

theorem late_meet {d : Int} (hd : 0 ≤ d ∧ d ≤ 4294967295) {a x : AirV} (h : a.off = false) (hen : a.en ≤ 1125899906842624) (h' : x.off = false) (hen' : x.en ≤ 1125899906842624) : (a.late d).meet (x.late d) = a.meet x := by
  obtain ⟨h1, h2⟩ := late_eq hd h hen
  obtain ⟨h3, h4⟩ := late_eq hd h' hen'
  have e1 : (a.late d).ch = a.ch := rfl
  have e2 : (x.late d).ch = x.ch := rfl
  unfold AirV.meet meetB
  rw [h1, h2, h3, h4, e1, e2, Bool.eq_iff_iff]
  simp only [Bool.and_eq_true, decide_eq_true_eq]
  omega

/-- The same things, so much later. -/
def Later (d : Int) (l m : List AirV) : Prop := m.length = l.length ∧ ∀ (i : Nat) (a : AirV), l[i]? = some a → ∃ b, m[i]? = some b ∧ b.like (a.late d) ∧ b.bad = a.bad

theorem later_launch {d : Int} (hd : 0 ≤ d ∧ d ≤ 4294967295) {l m : List AirV} {x : AirV} (hm : Later d l m) (hl : ∀ a ∈ l, a.en ≤ 1125899906842624) (hx : x.en ≤ 1125899906842624) (hE : launchE l x = 0) : launchE m (x.late d) = 0 := by
  obtain ⟨h1, h2, h3, h4⟩ := launchE_zero hE
  rw [checkI_iff] at h1
  have hck : checkI m = 0 := by
    rw [checkI_iff]
    refine ⟨by rw [hm.1]; exact h1.1, fun b hb => ?_, fun j a b ha hb => ?_⟩
    · obtain ⟨i, hi, rfl⟩ := List.getElem_of_mem hb
      obtain ⟨b', hb', hlike, _⟩ := hm.2 i _ (List.getElem?_eq_getElem (by rw [← hm.1]; exact hi))
      rw [List.getElem?_eq_getElem hi] at hb'
      cases hb'
      rw [hlike.off]
      exact late_off hd (h1.2.1 _ (List.getElem_mem _)) (hl _ (List.getElem_mem _))
    · have hj := (List.getElem?_eq_some_iff.mp ha).1
      have hj' := (List.getElem?_eq_some_iff.mp hb).1
      rw [hm.1] at hj hj'
      obtain ⟨a', ha', hla, _⟩ := hm.2 j _ (List.getElem?_eq_getElem hj)
      obtain ⟨b', hb', hlb, _⟩ := hm.2 (j + 1) _ (List.getElem?_eq_getElem hj')
      rw [ha] at ha'; cases ha'
      rw [hb] at hb'; cases hb'
      rw [hla.id, hlb.id]
      have := h1.2.2 j _ _ (List.getElem?_eq_getElem hj) (List.getElem?_eq_getElem hj')
      exact this
  have hbad : launchBad m (x.late d) = false := by
    unfold launchBad
    rw [hck, late_off hd h2 hx, hm.1]
    simp only [bne_self_eq_false, Bool.false_or]
    cases hlast : m[l.length - 1]? with
    | none => rfl
    | some b =>
      have hj := (List.getElem?_eq_some_iff.mp hlast).1
      rw [hm.1] at hj
      obtain ⟨b', hb', hlb, _⟩ := hm.2 (l.length - 1) _ (List.getElem?_eq_getElem hj)
      rw [hlast] at hb'; cases hb'
      have := h4 _ (List.getElem?_eq_getElem hj)
      simp only [decide_eq_false_iff_not]
      have e : (x.late d).id = x.id := rfl
      have e' := hlb.id
      have e'' : ∀ a : AirV, (a.late d).id = a.id := fun _ => rfl
      rw [e''] at e'
      omega
  unfold launchE
  rw [if_neg (by simp [hbad]), if_neg (by rw [hm.1]; exact h3)]

/-- Place by place, both launches answer the same but for the times. -/
theorem later_same {d : Int} (hd : 0 ≤ d ∧ d ≤ 4294967295) {l m l' m' : List AirV} {x x1 x2 : AirV} (hm : Later d l m) (hl : ∀ a ∈ l, a.en ≤ 1125899906842624) (hx : x.en ≤ 1125899906842624) (hE : launchE l x = 0)
    (hs : Sim l l') (hs' : Sim m m') (h1 : x1.like x) (hb1 : x1.bad = x.bad) (h2 : x2.like (x.late d)) (hb2 : x2.bad = x.bad) (i : Nat) (a b : AirV) (ha : (part l' x1 x l.length)[i]? = some a) (hb : (part m' x2 (x.late d) m.length)[i]? = some b) :
    a.bad = b.bad ∧ b.at_ = a.at_ + d ∧ a.at_ ≤ 1125899906842624 ∧ 0 ≤ a.at_ := by
  obtain ⟨g1, g2, g3, g4⟩ := launchE_zero hE
  rw [checkI_iff] at g1
  have hfx := off_fits g2
  rcases launched_at hs h1 hb1 i a ha with ⟨c, hc, hlc, hbc⟩ | ⟨hi, hlc, hbc⟩
  · rcases launched_at hs' h2 hb2 i b hb with ⟨e, he, hle, hbe⟩ | ⟨hi', hle, hbe⟩
    · obtain ⟨e', he', hlike, hbad⟩ := hm.2 i c hc
      rw [he] at he'; cases he'
      have hco := g1.2.1 c (List.mem_of_getElem? hc)
      have hce := hl c (List.mem_of_getElem? hc)
      have hfc := off_fits hco
      refine ⟨?_, by rw [hle.at_, hlike.at_, (late_eq hd hco hce).1, hlc.at_], by rw [hlc.at_]; omega, by rw [hlc.at_]; omega⟩
      rw [hbc, hbe, hbad, ← late_meet hd hco hce g2 hx, hlike.meet (AirV.like_refl _)]
    · have := (List.getElem?_eq_some_iff.mp hc).1
      rw [hm.1] at hi'
      omega
  · rcases launched_at hs' h2 hb2 i b hb with ⟨e, he, hle, hbe⟩ | ⟨hi', hle, hbe⟩
    · have := (List.getElem?_eq_some_iff.mp he).1
      rw [hm.1] at this
      omega
    · refine ⟨?_, by rw [hle.at_, (late_eq hd g2 hx).1, hlc.at_], by rw [hlc.at_]; omega, by rw [hlc.at_]; omega⟩
      rw [hbc, hbe]
      have e : (x.late d).bad = x.bad := rfl
      rw [e]
      congr 1
      rw [Bool.eq_iff_iff, List.any_eq_true, List.any_eq_true]
      constructor
      · rintro ⟨c, hc, hmeet⟩
        obtain ⟨j, hj, rfl⟩ := List.getElem_of_mem hc
        obtain ⟨e', he', hlike, hbad⟩ := hm.2 j _ (List.getElem?_eq_getElem hj)
        refine ⟨e', List.mem_of_getElem? he', ?_⟩
        rw [hlike.meet (AirV.like_refl _), late_meet hd (g1.2.1 _ hc) (hl _ hc) g2 hx]
        exact hmeet
      · rintro ⟨c, hc, hmeet⟩
        obtain ⟨j, hj, rfl⟩ := List.getElem_of_mem hc
        have hj' : j < l.length := by rw [← hm.1]; exact hj
        obtain ⟨e', he', hlike, hbad⟩ := hm.2 j _ (List.getElem?_eq_getElem hj')
        rw [List.getElem?_eq_getElem hj] at he'
        cases he'
        refine ⟨l[j], List.getElem_mem hj', ?_⟩
        rw [hlike.meet (AirV.like_refl _), late_meet hd (g1.2.1 _ (List.getElem_mem hj')) (hl _ (List.getElem_mem hj')) g2 hx] at hmeet
        exact hmeet

end Go.Det.M11
