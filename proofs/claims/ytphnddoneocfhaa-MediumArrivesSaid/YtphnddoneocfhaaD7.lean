/- The operations that read: maps, and all of them together. -/
import Derived.Test.YtphnddoneocfhaaD6
namespace Go.Det
set_option linter.unusedVariables false
set_option linter.unusedSimpArgs false

section
variable {P : Program} {ρ : Rho}

theorem forIn_fields (xs : Array Field) (g : Field → PUnit → Sem (ForInStep PUnit)) (w : World) (h : ∀ f ∈ xs.toList, ∀ r, (g f r).run P w = .ok (.yield PUnit.unit) w) :
    (forIn xs PUnit.unit g : Sem PUnit).run P w = .ok PUnit.unit w := by
  rw [← Array.forIn_toList]
  generalize xs.toList = l at h
  induction l with
  | nil => simp
  | cons f l ih =>
    simp only [List.forIn_cons, Sem.run_bind, h f (by simp) _, Result.andThen_ok]
    exact ih fun f hf => h f (by simp [hf])

theorem eqFs_parts {g : TypeId → DV → DV → Option Bool} {xs : List DV} : ∀ {l : List Field}, eqFs P g xs xs l = some true → ∀ f ∈ l, f.name ≠ "_" → ∃ a, partD P f.type xs f.offset = some a ∧ g f.type a a = some true
  | [], _, f, hf, _ => by cases hf
  | f' :: l, h, f, hf, hn => by
    simp only [eqFs] at h
    split at h
    · rename_i hg
      rcases List.mem_cons.mp hf with rfl | hm
      · exact absurd hg hn
      · exact eqFs_parts h f hm hn
    · cases ha : partD P f'.type xs f'.offset with
      | none => rw [ha] at h; cases h
      | some a =>
        rw [ha] at h
        simp only at h
        split at h
        · rename_i he
          rcases List.mem_cons.mp hf with rfl | hm
          · exact ⟨a, ha, he⟩
          · exact eqFs_parts h f hm hn
        · cases h
        · cases h

theorem checkKey_sound : ∀ (d D : Nat) (t : TypeId) (x : DV) (v : Value) (e : Bool) (w : World), eqT P d t x x = some true → d ≤ D → VR ρ x v → (Instr.checkKey e D t v).run P w = .ok () w
  | 0, _, _, _, _, _, _, h, _, _ => by simp [eqT] at h
  | d + 1, 0, _, _, _, _, _, _, hd, _ => by omega
  | d + 1, D + 1, t, x, v, e, w, h, hd, hx => by
    simp only [eqT] at h
    cases hu : P.underlying t with
    | none => rw [hu] at h; cases h
    | some td =>
      rw [hu] at h
      simp only [Instr.checkKey, Sem.run_bind, r_underlying hu, Result.andThen_ok]
      cases td with
      | interface ms => exfalso; cases x <;> simp at h
      | array n e => exfalso; cases x <;> simp at h
      | struct fs =>
        cases x with
        | agg xs =>
          simp only at h
          split at h
          · cases h
          · rename_i hc
            simp only [not_or, Bool.not_eq_true, Bool.not_eq_false] at hc
            obtain ⟨hst, h1, h2⟩ := hc
            simp only [VR] at hx
            obtain ⟨_, cx, rfl, hx⟩ := hx
            have hloop : ∀ (g : Field → PUnit → Sem (ForInStep PUnit)), (g = fun f _ => if f.name ≠ "_" then do
                let x ← part f.type cx f.offset
                Instr.checkKey e D f.type x
                pure (ForInStep.yield PUnit.unit)
              else pure (ForInStep.yield PUnit.unit)) → (forIn fs PUnit.unit g : Sem PUnit).run P w = .ok PUnit.unit w := by
              rintro g rfl
              refine forIn_fields _ _ _ fun f hf r => ?_
              by_cases hn : f.name = "_"
              · simp [hn]
              · obtain ⟨a, ha, he⟩ := eqFs_parts h f hf hn
                obtain ⟨va, hra, hva⟩ := part_sound ha hx h1 w
                have := checkKey_sound d D f.type a va e w he (by omega) hva
                simp [hn, hra, this]
            show ((forIn fs PUnit.unit _ : Sem PUnit) >>= fun _ => (pure () : Sem Unit)).run P w = _
            rw [Sem.run_bind, hloop _ rfl]
            rfl
        | _ => exfalso; simp at h
      | _ => cases v <;> rfl

theorem keq_eqT {t : TypeId} {k k' : DV} {b : Bool} (h : keq P t k k' = some b) : eqT P 20 t k k' = some b ∧ (b = true → DV.beq k k' = true ∧ plainKey k = true) := by
  unfold keq at h
  split at h
  · rename_i he
    split at h
    · rename_i hc; cases h; exact ⟨he, fun _ => by simpa using hc⟩
    · cases h
  · rename_i he; cases h; exact ⟨he, fun h => by cases h⟩
  · cases h

def FoundR (ρ : Rho) : Option (Nat × DV) → Option (Nat × Value) → Prop
  | none, v => v = none
  | some (i, d), v => ∃ x, v = some (i, x) ∧ VR ρ d x

theorem findAsking_sound {t : TypeId} {k : DV} {vk : Value} (hk : VR ρ k vk) (w : World) : ∀ {es : List (DV × DV)} {ents : List MapEntry} {r : Option (Nat × DV)} (n : Nat), EntsR ρ es ents → findD P t k es = some r →
    ∃ q, (Instr.findAsking t vk ents n).run P w = .ok q w ∧ FoundR ρ (r.map fun x => (x.1 + n, x.2)) q
  | [], _, r, n, he, h => by
    cases he
    simp only [findD] at h
    cases h
    exact ⟨none, by simp [Instr.findAsking], rfl⟩
  | (k', v') :: es, _, r, n, he, h => by
    cases he with
    | cons hx hes =>
      rename_i e ents
      simp only [findD] at h
      split at h
      · rename_i hq
        cases h
        obtain ⟨h1, _⟩ := keq_eqT hq
        have := eqT_sound 20 10000 t k k' vk e.key true w h1 (by omega) hk hx.key
        refine ⟨some (n, e.val), by simp [Instr.findAsking, Op.equal, Op.maxDepth, this], ?_⟩
        simp only [Option.map_some, FoundR, Nat.zero_add]
        exact ⟨_, rfl, hx.val⟩
      · rename_i hq
        obtain ⟨h1, _⟩ := keq_eqT hq
        have := eqT_sound 20 10000 t k k' vk e.key false w h1 (by omega) hk hx.key
        cases hf : findD P t k es with
        | none => rw [hf] at h; cases h
        | some r' =>
          rw [hf] at h
          cases h
          obtain ⟨q, hr, hq'⟩ := findAsking_sound hk w (n + 1) hes hf
          refine ⟨q, by simp [Instr.findAsking, Op.equal, Op.maxDepth, this, hr], ?_⟩
          cases r' with
          | none => simpa using hq'
          | some x =>
            simp only [Option.map_some, FoundR] at hq' ⊢
            obtain ⟨y, hy, hyr⟩ := hq'
            exact ⟨y, by rw [hy]; simp; omega, hyr⟩
      · cases h

theorem findNow_sound {t : TypeId} {td : TypeDesc} (hu : P.underlying t = some td) {k : DV} {vk : Value} (hk : VR ρ k vk) : ∀ {es : List (DV × DV)} {ents : List MapEntry} {r : Option (Nat × DV)} (n : Nat) {q : Option (Nat × Value)}, EntsR ρ es ents → findD P t k es = some r →
    Instr.findNow td vk ents n = some q → FoundR ρ (r.map fun x => (x.1 + n, x.2)) q
  | [], _, r, n, q, he, h, hq => by
    cases he
    simp only [findD] at h
    cases h
    simp only [Instr.findNow] at hq
    cases hq
    rfl
  | (k', v') :: es, _, r, n, q, he, h, hq => by
    cases he with
    | cons hx hes =>
      rename_i e ents
      simp only [findD] at h
      simp only [Instr.findNow] at hq
      have same : ∀ b b', Instr.sameNow td vk e.key = some b → keq P t k k' = some b' → b = b' := by
        intro b b' h1 h2
        obtain ⟨h3, _⟩ := keq_eqT h2
        have := eqT_sound 20 (19 + 1) t k k' vk e.key b' default h3 (by omega) hk hx.key
        have hkey : ∀ td' v1 v2, td' = td → v1 = vk → v2 = e.key → Instr.sameNow td' v1 v2 = some b → b = b' := by
          intro td' v1 v2 e1 e2 e3 h1
          unfold Instr.sameNow at h1
          split at h1
          · split at h1
            · rename_i hj
              cases h1
              subst hj
              rw [← e2, ← e3] at this
              rw [← e1] at hu
              rw [run_equalIn_int _ _ _ _ _ _ _ hu] at this
              injection this
            · cases h1
          · cases h1
            rw [← e2, ← e3] at this
            rw [← e1] at hu
            rw [run_equalIn_string _ _ _ _ _ hu, ← beq_toListBytes] at this
            injection this
          · cases h1
            rw [← e2, ← e3] at this
            rw [← e1] at hu
            rw [run_equalIn_bool' _ _ _ _ _ hu] at this
            injection this
          · cases h1
        exact hkey _ _ _ rfl rfl rfl h1
      cases hs : Instr.sameNow td vk e.key with
      | none => rw [hs] at hq; cases hq
      | some b =>
        rw [hs] at hq
        split at h
        · rename_i hkq
          cases h
          have := same _ _ hs hkq
          subst this
          simp only at hq
          cases hq
          simp only [Option.map_some, FoundR, Nat.zero_add]
          exact ⟨_, rfl, hx.val⟩
        · rename_i hkq
          have := same _ _ hs hkq
          subst this
          simp only at hq
          cases hf : findD P t k es with
          | none => rw [hf] at h; cases h
          | some r' =>
            rw [hf] at h
            cases h
            have := findNow_sound hu hk (n + 1) hes hf hq
            cases r' with
            | none => simpa using this
            | some x =>
              simp only [Option.map_some, FoundR] at this ⊢
              obtain ⟨y, hy, hyr⟩ := this
              exact ⟨y, by rw [hy]; simp; omega, hyr⟩
        · cases h

theorem findKey_sound {t : TypeId} {td : TypeDesc} (hu : P.underlying t = some td) {k : DV} {vk : Value} (hk : VR ρ k vk) {es : List (DV × DV)} {ents : List MapEntry} {r : Option (Nat × DV)} (he : EntsR ρ es ents) (h : findD P t k es = some r) (w : World) :
    ∃ q, (Instr.findKey t vk ents).run P w = .ok q w ∧ FoundR ρ r q := by
  have hr : (r.map fun x => (x.1 + 0, x.2)) = r := by cases r <;> rfl
  simp only [Instr.findKey, Sem.run_bind, r_underlying hu, Result.andThen_ok]
  cases hn : Instr.findNow td vk ents 0 with
  | some q =>
    refine ⟨q, rfl, ?_⟩
    have := findNow_sound hu hk 0 he h hn
    rwa [hr] at this
  | none =>
    obtain ⟨q, h1, h2⟩ := findAsking_sound hk w 0 he h
    rw [hr] at h2
    exact ⟨q, h1, h2⟩

theorem EntsR.length {es : List (DV × DV)} {ents : List MapEntry} (h : EntsR ρ es ents) : ents.length = es.length := by
  induction h with
  | nil => rfl
  | cons _ _ ih => simp [ih]

theorem keyOk_eqT {t : TypeId} {k : DV} (h : keyOk P t k = true) : keq P t k k = some true := by
  unfold keyOk at h
  split at h <;> first | exact beq_iff_eq.mp h | cases h

theorem tuple2 {a b : DV} {x y : Value} (h1 : VR ρ a x) (h2 : VR ρ b y) : VR ρ (.tuple [a, b]) (.tuple #[x, y]) := by
  simp only [VR]
  exact ⟨_, rfl, .cons h1 (.one h2)⟩

theorem lookup_sound {t : TypeId} {H : DH} {x k d : DV} {v u : Value} {ok : Bool} {w : World} (h : lookupD P t H x k ok = some d) (hx : VR ρ x v) (hk : VR ρ k u) (ha : Agree ρ H w) :
    ∃ r, (Instr.lookup t v u ok).run P w = .ok r w ∧ VR ρ d r := by
  unfold lookupD at h
  split at h
  · rename_i kt e r hu
    split at h
    case isFalse => cases h
    rename_i hko
    split at h
    case h_2 => cases h
    rename_i es hes
    have hkk := (keq_eqT (keyOk_eqT hko)).1
    obtain ⟨td, htd⟩ : ∃ td, P.underlying kt = some td := by
      cases hq : P.underlying kt with
      | none => simp only [eqT, hq] at hkk; cases hkk
      | some td => exact ⟨td, rfl⟩
    cases hf : findD P kt k es with
    | none => rw [hf] at h; cases h
    | some r' =>
      rw [hf] at h
      have fin : ∀ (ents : Array MapEntry), EntsR ρ es ents.toList → ∃ r, (do
          Instr.checkKey ents.isEmpty 10000 kt u
          let __do_lift ← Instr.findKey kt u ents.toList
          match __do_lift with
          | some (_, v) => do
            let __x ← pure (v, true)
            pure (if ok = true then Value.tuple #[__x.fst, Value.bool __x.snd] else __x.fst)
          | none => do
            let __do_lift ← zeroValue e
            let __x ← pure (__do_lift, false)
            pure (if ok = true then Value.tuple #[__x.fst, Value.bool __x.snd] else __x.fst) : Sem Value).run P w = .ok r w ∧ VR ρ d r := by
        intro ents hents
        have hck := checkKey_sound (P := P) 20 10000 kt k u ents.isEmpty w hkk (by omega) hk
        obtain ⟨q, hq, hqr⟩ := findKey_sound htd hk hents hf w
        rw [Sem.run_bind, hck, Result.andThen_ok, Sem.run_bind, hq, Result.andThen_ok]
        cases r' with
        | none =>
          simp only [FoundR] at hqr
          subst hqr
          simp only at h
          cases hz : zeroT P e with
          | none => rw [hz] at h; cases h
          | some z =>
            rw [hz] at h
            obtain ⟨zv, hzr, hzv⟩ := r_zero hz ρ w
            simp only [Option.map_some, Option.some.injEq] at h
            subst h
            cases ok
            · exact ⟨zv, by simp [hzr], hzv⟩
            · exact ⟨.tuple #[zv, .bool false], by simp [hzr], tuple2 hzv (VR_bool _)⟩
        | some x =>
          obtain ⟨i, d'⟩ := x
          simp only [FoundR] at hqr
          obtain ⟨y, rfl, hy⟩ := hqr
          simp only at h
          cases h
          cases ok
          · exact ⟨y, by simp, hy⟩
          · exact ⟨.tuple #[y, .bool true], by simp, tuple2 hy (VR_bool _)⟩
      unfold mapEs at hes
      split at hes
      · cases hes
        simp only [VR] at hx
        subst hx
        obtain ⟨r, h1, h2⟩ := fin #[] .nil
        refine ⟨r, ?_, h2⟩
        unfold Instr.lookup
        rw [Sem.run_bind, r_underlying hu, Result.andThen_ok]
        exact h1
      · rename_i l
        split at hes
        · rename_i es' ho
          cases hes
          simp only [VR] at hx
          obtain ⟨pl, hp, rfl⟩ := hx
          obtain ⟨pl', hp', ents, clock, hb, he⟩ := ha.obj l _ ho
          rw [hp] at hp'
          cases hp'
          obtain ⟨r, h1, h2⟩ := fin ents he
          refine ⟨r, ?_, h2⟩
          have hg : (getObj pl.block).run P w = .ok (.map ents clock) w := by simp [getObj, Sem.run, hb]
          unfold Instr.lookup
          rw [Sem.run_bind, r_underlying hu, Result.andThen_ok]
          show ((getObj pl.block) >>= _ : Sem Value).run P w = _
          rw [Sem.run_bind, hg, Result.andThen_ok]
          exact h1
        · cases hes
  · cases h

theorem read_sound {o : Oper} {ev : Ev} {H : DH} {d : DV} {w : World} (h : readD P o ev H = some d) {e : Operand → Value} (he : EvR ρ ev e) (ha : Agree ρ H w) :
    ∃ v, (execOp e o).run P w = .ok (.value v) w ∧ VR ρ d v := by
  obtain ⟨dst, op, type, pos, after, guard⟩ := o
  unfold readD at h
  simp only at h
  split at h
  · rename_i t a
    split at h
    · rename_i p hp
      obtain ⟨v, hr, hd⟩ := load_sound h (he _ _ hp) ha
      exact ⟨v, by simp only [execOp, Sem.run_bind, hr, Result.andThen_ok, Sem.run_pure], hd⟩
    · cases h
  · rename_i t x k ok
    split at h
    · rename_i m k' hm hk
      obtain ⟨v, hr, hd⟩ := lookup_sound h (he _ _ hm) (he _ _ hk) ha
      exact ⟨v, by simp only [execOp, Sem.run_bind, hr, Result.andThen_ok, Sem.run_pure], hd⟩
    · cases h
  · rename_i s t x
    split at h
    · rename_i e' a hs ht hx
      split at h
      · rename_i hu8
        split at h
        · rename_i rs hrs
          cases hb : bytesOf rs with
          | none => rw [hb] at h; cases h
          | some l =>
            rw [hb] at h
            cases h
            have hxv := he _ _ hx
            have hr := bytesString_sound (P := P) ha hrs hb hxv
            refine ⟨_, ?_, VR_str l⟩
            have hc : (convert s t (e x)).run P w = .ok (.string ⟨l.toArray⟩) w := by
              have hsl : ∃ p n c, e x = .slice p n c := by
                unfold rowsOf at hrs
                split at hrs
                · simp only [VR] at hxv; obtain ⟨_, _, h⟩ := hxv; exact ⟨_, _, _, h⟩
                · simp only [VR] at hxv; obtain ⟨_, _, _, _, _, h, _⟩ := hxv; exact ⟨_, _, _, h⟩
                · cases hrs
              obtain ⟨p, n, c, hsl⟩ := hsl
              rw [hsl] at hr ⊢
              rw [run_convert_bytes_string w s t e' p n c hs hu8 ht]
              exact hr
            simp only [execOp, Sem.run_bind, hc, Result.andThen_ok, Sem.run_pure]
        · cases h
      · cases h
    · cases h
  · rename_i args argTypes
    obtain ⟨args⟩ := args
    obtain ⟨argTypes⟩ := argTypes
    simp only at h
    split at h
    · rename_i x t
      split at h
      · rename_i hu hx
        cases h
        have hxv := he _ _ hx
        simp only [VR] at hxv
        refine ⟨_, ?_, VR_int _ _⟩
        simp [execOp, resolve, invoke, builtin, Builtin.len_, r_underlying hu, hxv, goInt]
      · rename_i kt et l hu hx
        split at h
        · rename_i es ho
          cases h
          have hxv := he _ _ hx
          simp only [VR] at hxv
          obtain ⟨pl, hp, hv⟩ := hxv
          obtain ⟨pl', hp', ents, clock, hb, hee⟩ := ha.obj l _ ho
          rw [hp] at hp'
          cases hp'
          refine ⟨_, ?_, VR_int _ _⟩
          have hg : (getObj pl.block).run P w = .ok (.map ents clock) w := by simp [getObj, Sem.run, hb]
          have hlen := EntsR.length hee
          simp only [Array.length_toList] at hlen
          simp [execOp, resolve, invoke, builtin, Builtin.len_, r_underlying hu, hv, goInt, hg, hlen]
        · cases h
      · cases h
    · cases h
  · cases h
end
end Go.Det
