/- The operations that neither read nor write, all of them. -/
import Derived.Test.YtphnddoneocfhaaD3
namespace Go.Det
set_option linter.unusedVariables false
set_option linter.unusedSimpArgs false

section
variable {P : Program} {ρ : Rho}

theorem evs_sound {ev : Ev} {e : Operand → Value} (he : EvR ρ ev e) : ∀ {xs : List Operand} {ds : List DV}, evs ev xs = some ds → VRs ρ ds (xs.map e)
  | [], _, h => by simp only [evs] at h; cases h; exact .nil
  | x :: r, _, h => by
    simp only [evs] at h
    split at h
    · rename_i d ds hd hds; cases h; exact .cons (he _ _ hd) (evs_sound he hds)
    · cases h

def OptR (ρ : Rho) : Option DV → Option Value → Prop
  | none, v => v = none
  | some d, v => ∃ x, v = some x ∧ VR ρ d x

theorem evOpt_sound {ev : Ev} {e : Operand → Value} (he : EvR ρ ev e) {x : Option Operand} {d : Option DV} (h : evOpt ev x = some d) : OptR ρ d (x.map e) := by
  cases x with
  | none => simp only [evOpt] at h; cases h; rfl
  | some x =>
    simp only [evOpt] at h
    cases hx : ev x with
    | none => rw [hx] at h; cases h
    | some a => rw [hx] at h; cases h; exact ⟨_, rfl, he _ _ hx⟩

theorem bound_sound {y n : Nat} {d : DV} {v : Value} (h : boundD y d = some n) (hv : VR ρ d v) (code : BoundsCode) (w : World) : (Instr.sliceBound v y code).run P w = .ok n w := by
  unfold boundD at h
  split at h
  · rename_i i
    split at h
    · rename_i hc; cases h; simp only [VR] at hv; subst hv; simp [Instr.sliceBound, asIntOf, hc]
    · cases h
  · cases h

theorem bounds_sound {len cap : Nat} {lo hi mx : Option DV} {vl vh vm : Option Value} {r : Nat × Nat × Nat} (isS : Bool) (h : boundsD len cap lo hi mx = some r) (hl : OptR ρ lo vl) (hh : OptR ρ hi vh) (hm : OptR ρ mx vm) (w : World) :
    (Instr.sliceBounds isS len cap vl vh vm).run P w = .ok r w := by
  unfold boundsD at h
  split at h
  · cases h
  · rename_i m hmx
    split at h
    · cases h
    · rename_i hv hhi
      split at h
      · cases h
      · rename_i l hlo
        cases h
        cases mx with
        | none =>
          simp only [OptR] at hm; subst hm; simp only at hmx; cases hmx
          cases hi with
          | none =>
            simp only [OptR] at hh; subst hh; simp only at hhi; cases hhi
            cases lo with
            | none => simp only [OptR] at hl; subst hl; simp only at hlo; cases hlo; simp [Instr.sliceBounds]
            | some lo => simp only [OptR] at hl; obtain ⟨x, rfl, hx⟩ := hl; simp only at hlo; simp [Instr.sliceBounds, bound_sound hlo hx]
          | some hi =>
            simp only [OptR] at hh; obtain ⟨x, rfl, hx⟩ := hh; simp only at hhi
            cases lo with
            | none => simp only [OptR] at hl; subst hl; simp only at hlo; cases hlo; simp [Instr.sliceBounds, bound_sound hhi hx]
            | some lo => simp only [OptR] at hl; obtain ⟨y, rfl, hy⟩ := hl; simp only at hlo; simp [Instr.sliceBounds, bound_sound hlo hy, bound_sound hhi hx]
        | some mx =>
          simp only [OptR] at hm; obtain ⟨z, rfl, hz⟩ := hm; simp only at hmx
          cases hi with
          | none => simp only at hhi; cases hhi
          | some hi =>
            simp only [OptR] at hh; obtain ⟨x, rfl, hx⟩ := hh; simp only at hhi
            cases lo with
            | none => simp only [OptR] at hl; subst hl; simp only at hlo; cases hlo; simp [Instr.sliceBounds, bound_sound hhi hx, bound_sound hmx hz]
            | some lo => simp only [OptR] at hl; obtain ⟨y, rfl, hy⟩ := hl; simp only at hlo; simp [Instr.sliceBounds, bound_sound hlo hy, bound_sound hhi hx, bound_sound hmx hz]

theorem bound_le {y n : Nat} {d : DV} (h : boundD y d = some n) : n ≤ y := by
  unfold boundD at h
  split at h
  · split at h
    · cases h; omega
    · cases h
  · cases h

theorem bounds_le {len cap : Nat} {lo hi mx : Option DV} {l h m : Nat} (e : boundsD len cap lo hi mx = some (l, h, m)) (hc : len ≤ cap) : l ≤ h ∧ h ≤ m ∧ m ≤ cap ∧ (mx = none → m = cap) := by
  unfold boundsD at e
  split at e
  · cases e
  · rename_i m' hm
    split at e
    · cases e
    · rename_i h' hh
      split at e
      · cases e
      · rename_i l' hl
        cases e
        have h1 : m ≤ cap ∧ (mx = none → m = cap) := by
          cases mx with
          | none => simp only at hm; cases hm; exact ⟨Nat.le_refl _, fun _ => rfl⟩
          | some v => simp only at hm; exact ⟨bound_le hm, fun e => by cases e⟩
        have h2 : h ≤ m := by
          cases hi with
          | none => cases mx with
            | none => simp only at hh; cases hh; rw [h1.2 rfl]; exact hc
            | some v => simp only at hh; cases hh
          | some v => cases mx with
            | none => simp only at hh; exact bound_le hh
            | some u => simp only at hh; exact bound_le hh
        have h3 : l ≤ h := by
          cases lo with
          | none => simp only at hl; cases hl; exact Nat.zero_le _
          | some v => simp only at hl; exact bound_le hl
        exact ⟨h3, h2, h1.1, h1.2⟩

theorem extract_mk (s : List UInt8) (l h : Nat) : (⟨s.toArray⟩ : ByteArray).extract l h = ⟨((s.drop l).take (h - l)).toArray⟩ := by
  apply ByteArray.ext
  rw [ByteArray.data_extract]
  simp [List.extract_eq_take_drop]

theorem addr_add (pl : Pl) (i l : Nat) (n : Nat) (hn : n = pl.sz) : (pl.addr i 0).add (l * n) = pl.addr (i + l) 0 := by
  subst hn
  unfold Addr.add Pl.addr
  split
  · rename_i h
    have : (i + l) * pl.sz = i * pl.sz := by rw [Nat.add_mul]; omega
    rw [this]
  · have : (i + l) * pl.sz = i * pl.sz + l * pl.sz := Nat.add_mul _ _ _
    rw [this]
    simp only [Addr.mk.injEq, and_true, true_and]
    omega

theorem slice_sound {t : TypeId} {x d : DV} {lo hi mx : Option DV} {v : Value} {vl vh vm : Option Value} (h : sliceD P t x lo hi mx = some d) (hx : VR ρ x v) (hl : OptR ρ lo vl) (hh : OptR ρ hi vh) (hm : OptR ρ mx vm) (w : World) :
    ∃ u, (Instr.sliceAt t v vl vh vm).run P w = .ok u w ∧ VR ρ d u := by
  unfold sliceD at h
  split at h
  · rename_i s hu
    split at h
    · cases h
    · simp only [VR] at hx
      subst hx
      simp only [OptR] at hm
      subst hm
      split at h
      · rename_i l hv m hb
        cases h
        refine ⟨.string ⟨((s.drop l).take (hv - l)).toArray⟩, ?_, by simp [VR]⟩
        have hbs := bounds_sound (P := P) (ρ := ρ) false hb hl hh (by rfl : OptR ρ none none) w
        have hsz' : (⟨s.toArray⟩ : ByteArray).size = s.length := by simp [ByteArray.size]
        simp only [Instr.sliceAt, Instr.slice, Sem.run_bind, r_underlying hu, Result.andThen_ok, Option.isSome_none, Bool.false_eq_true, if_false, Sem.run_pure, hsz', hbs, extract_mk]
      · cases h
  · rename_i e p len cap ex hu
    split at h
    case isFalse => cases h
    rename_i hrz
    split at h
    · rename_i l hv m hb
      cases p with
      | none =>
        simp only [VR] at hx
        obtain ⟨rfl, rfl, rfl⟩ := hx
        have hle := bounds_le hb (Nat.le_refl _)
        have hbs := bounds_sound (P := P) true hb hl hh hm w
        obtain ⟨n, hn⟩ : ∃ n, sizeT P e = some n := by
          unfold rowSz at hrz
          split at hrz <;> simp_all
        have e1 : l = 0 := by omega
        have e2 : hv = 0 := by omega
        have e3 : m = 0 := by omega
        subst e1; subst e2; subst e3
        refine ⟨.slice none 0 0, ?_, ?_⟩
        · simp only [Instr.sliceAt, Instr.slice, Sem.run_bind, r_underlying hu, Result.andThen_ok, hbs, r_sizeOf hn, Sem.run_pure]
          simp
        · cases mx <;> (simp only at h; cases h; simp [VR])
      | some p =>
        obtain ⟨b, i, z⟩ := p
        simp only [VR] at hx
        obtain ⟨pl, a, c', hp, hz, rfl, hnc, hcc, hex, htot, ha⟩ := hx
        have hle := bounds_le hb hnc
        have hn : sizeT P e = some pl.sz := by
          unfold rowSz at hrz
          split at hrz <;> simp_all
        have hb' : ∃ m', (Instr.sliceBounds true len c' vl vh vm).run P w = .ok (l, hv, m') w ∧ m ≤ m' ∧ m' ≤ c' ∧ ((mx ≠ none ∨ ex = true) → m' = m) := by
          cases mx with
          | none =>
            have hm' : m = cap := hle.2.2.2 rfl
            have hb2 : boundsD len c' lo hi none = some (l, hv, c') := by
              unfold boundsD at hb ⊢
              simp only at hb ⊢
              cases hi with
              | none =>
                simp only at hb ⊢
                revert hb
                split
                · intro hb; cases hb
                · intro hb; cases hb; rfl
              | some d =>
                simp only at hb ⊢
                have hbd : ∀ q, boundD cap d = some q → boundD c' d = some q := by
                  intro q hq
                  unfold boundD at hq ⊢
                  split at hq
                  · split at hq
                    · rename_i hc; cases hq; rw [if_pos (by omega)]
                    · cases hq
                  · cases hq
                cases hq : boundD cap d with
                | none => rw [hq] at hb; cases hb
                | some q =>
                  rw [hq] at hb
                  rw [hbd q hq]
                  simp only at hb ⊢
                  revert hb
                  split
                  · intro hb; cases hb
                  · intro hb; cases hb; rfl
            refine ⟨c', bounds_sound true hb2 hl hh hm w, by omega, Nat.le_refl _, ?_⟩
            rintro (h1 | h1)
            · exact absurd rfl h1
            · rw [hex h1, hm']
          | some z =>
            have hb2 : boundsD len c' lo hi (some z) = some (l, hv, m) := by
              unfold boundsD at hb ⊢
              simp only at hb ⊢
              have hbd : ∀ q, boundD cap z = some q → boundD c' z = some q := by
                intro q hq
                unfold boundD at hq ⊢
                split at hq
                · split at hq
                  · rename_i hc; cases hq; rw [if_pos (by omega)]
                  · cases hq
                · cases hq
              cases hq : boundD cap z with
              | none => rw [hq] at hb; cases hb
              | some q =>
                rw [hq] at hb
                rw [hbd q hq]
                exact hb
            exact ⟨m, bounds_sound true hb2 hl hh hm w, Nat.le_refl _, by omega, fun _ => rfl⟩
        obtain ⟨m', hbs, h1, h2, h3⟩ := hb'
        refine ⟨.slice (if m' = l then some a else some (a.add (l * pl.sz))) (hv - l) (m' - l), ?_, ?_⟩
        · simp only [Instr.sliceAt, Instr.slice, Sem.run_bind, r_underlying hu, Result.andThen_ok, hbs, r_sizeOf hn, Sem.run_pure, Option.map_some]
        · have key : ∀ ex', ((mx ≠ none ∨ ex = true) ∨ ex' = false) → VR ρ (.sl (some (b, i + l, z)) (hv - l) (m - l) ex') (.slice (if m' = l then some a else some (a.add (l * pl.sz))) (hv - l) (m' - l)) := by
            intro ex' hx'
            simp only [VR]
            refine ⟨pl, (if m' = l then a else a.add (l * pl.sz)), m' - l, hp, hz, by split <;> rfl, by omega, by omega, ?_, by omega, ?_⟩
            · intro hx1
              rcases hx' with hx' | hx'
              · rw [h3 hx']
              · rw [hx'] at hx1; cases hx1
            · by_cases e : m' = l
              · left; omega
              · right
                rw [if_neg e]
                rcases ha with ha | ha
                · omega
                · rw [ha]; exact addr_add _ _ _ _ rfl
          cases mx with
          | none =>
            simp only at h
            cases h
            refine key ex ?_
            cases ex
            · exact .inr rfl
            · exact .inl (.inr rfl)
          | some z => simp only at h; cases h; exact key true (.inl (.inl (by simp)))
    · cases h
  · cases h

end
end Go.Det
