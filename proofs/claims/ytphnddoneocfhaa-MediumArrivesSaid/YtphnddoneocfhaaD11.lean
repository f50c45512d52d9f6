/- Maps written. -/
import Derived.Test.YtphnddoneocfhaaD10
namespace Go.Det
set_option linter.unusedVariables false
set_option linter.unusedSimpArgs false

section
variable {P : Program} {ρ : Rho}

def scalarKey : DV → Bool
  | .bool _ | .int _ _ | .str _ => true
  | _ => false

theorem same_scalar {k k' : DV} {v v' : Value} (hk : VR ρ k v) (hk' : VR ρ k' v') (hb : DV.beq k k' = true) (hp : scalarKey k = true) (d : Nat) : Instr.sameBits d v' v = true := by
  cases k <;> simp only [scalarKey] at hp <;> first | (cases hp; done) | skip
  · cases k' <;> simp only [DV.beq] at hb <;> first | (cases hb; done) | skip
    simp only [VR] at hk hk'; subst hk; subst hk'
    simp only [beq_iff_eq] at hb; subst hb
    cases d <;> simp [Instr.sameBits]
  · cases k' <;> simp only [DV.beq] at hb <;> first | (cases hb; done) | skip
    simp only [VR] at hk hk'; subst hk; subst hk'
    simp only [Bool.and_eq_true, beq_iff_eq] at hb
    obtain ⟨h1, h2⟩ := hb
    subst h1; subst h2
    cases d <;> simp [Instr.sameBits]
  · cases k' <;> simp only [DV.beq] at hb <;> first | (cases hb; done) | skip
    simp only [VR] at hk hk'; subst hk; subst hk'
    simp only [beq_iff_eq] at hb; subst hb
    have : ∀ (s : ByteArray), (s == s) = true := by intro s; rw [beq_toListBytes]; simp
    cases d <;> simp [Instr.sameBits, this]

theorem same_scalars {d : Nat} : ∀ {k k' : List DV} {v v' : List Value}, VRs ρ k v → VRs ρ k' v' → DV.beqs k k' = true → k.all scalarKey = true → v'.length = v.length ∧ ((v'.zip v).all fun (x, y) => Instr.sameBits d x y) = true
  | [], k', _, _, h, h', hb, _ => by
    cases k' with
    | nil => simp only [VRs] at h h'; subst h; subst h'; simp
    | cons => simp [DV.beqs] at hb
  | a :: k, k', _, _, h, h', hb, hp => by
    cases k' with
    | nil => simp [DV.beqs] at hb
    | cons a' k' =>
      simp only [VRs] at h h'
      obtain ⟨v, r, rfl, h1, h2⟩ := h
      obtain ⟨v', r', rfl, h1', h2'⟩ := h'
      simp only [DV.beqs, Bool.and_eq_true] at hb
      simp only [List.all_cons, Bool.and_eq_true] at hp
      obtain ⟨e1, e2⟩ := same_scalars h2 h2' hb.2 hp.2
      exact ⟨by simp [e1], by simp only [List.zip_cons_cons, List.all_cons, Bool.and_eq_true]; exact ⟨same_scalar h1 h1' hb.1 hp.1 d, e2⟩⟩

theorem same_key {k k' : DV} {v v' : Value} (hk : VR ρ k v) (hk' : VR ρ k' v') (hb : DV.beq k k' = true) (hp : plainKey k = true) : Instr.sameBits 10000 v' v = true := by
  cases k with
  | agg cs =>
    cases k' <;> simp only [DV.beq] at hb <;> first | (cases hb; done) | skip
    rename_i cs'
    simp only [VR] at hk hk'
    obtain ⟨_, vs, rfl, h⟩ := hk
    obtain ⟨_, vs', rfl, h'⟩ := hk'
    have hall : cs.all scalarKey = true := by
      simp only [plainKey] at hp
      rw [List.all_eq_true] at hp ⊢
      intro x hx
      have := hp x hx
      cases x <;> simp_all [scalarKey]
    obtain ⟨h1, h2⟩ := same_scalars (d := 9999) h h' hb hall
    show Instr.sameBits (9999 + 1) (.agg vs') (.agg vs) = true
    simp only [Instr.sameBits, Bool.and_eq_true, beq_iff_eq]
    exact ⟨by simpa using h1, h2⟩
  | bool => exact same_scalar hk hk' hb rfl _
  | int => exact same_scalar hk hk' hb rfl _
  | str => exact same_scalar hk hk' hb rfl _
  | _ => simp [plainKey] at hp

theorem findD_entry {t : TypeId} {k : DV} : ∀ {es : List (DV × DV)} {i : Nat} {v : DV}, findD P t k es = some (some (i, v)) → ∃ k', es[i]? = some (k', v) ∧ DV.beq k k' = true ∧ plainKey k = true
  | [], i, v, h => by simp [findD] at h
  | (k', v') :: es, i, v, h => by
    simp only [findD] at h
    split at h
    · rename_i hq
      cases h
      obtain ⟨_, h2⟩ := keq_eqT hq
      exact ⟨k', rfl, (h2 rfl).1, (h2 rfl).2⟩
    · cases hf : findD P t k es with
      | none => rw [hf] at h; cases h
      | some r =>
        rw [hf] at h
        cases r with
        | none => cases h
        | some x =>
          obtain ⟨j, u⟩ := x
          cases h
          obtain ⟨k', h1, h2⟩ := findD_entry hf
          exact ⟨k', by simpa using h1, h2⟩
    · cases h

theorem EntsR.get {es : List (DV × DV)} {ents : List MapEntry} (h : EntsR ρ es ents) : ∀ {i : Nat} {x : DV × DV}, es[i]? = some x → ∃ e, ents[i]? = some e ∧ EntR ρ x e := by
  induction h with
  | nil => intro i x h; simp at h
  | cons a _ ih =>
    intro i x h
    cases i with
    | zero => simp at h; subst h; exact ⟨_, rfl, a⟩
    | succ i => simp at h; obtain ⟨e, he, hr⟩ := ih h; exact ⟨e, by simpa using he, hr⟩

theorem EntsR.set {es : List (DV × DV)} {ents : List MapEntry} (h : EntsR ρ es ents) : ∀ (i : Nat) {x : DV × DV} {f : MapEntry → MapEntry}, (∀ e, ents[i]? = some e → EntR ρ x (f e)) → EntsR ρ (es.set i x) (ents.modify i f) := by
  induction h with
  | nil => intro i x f _; simp; exact .nil
  | cons a r ih =>
    intro i x f hf
    cases i with
    | zero => simp only [List.set_cons_zero, List.modify_zero_cons]; exact .cons (hf _ rfl) r
    | succ i => simp only [List.set_cons_succ, List.modify_succ_cons]; exact .cons a (ih i (fun e he => hf e (by simpa using he)))

theorem EntsR.snoc {es : List (DV × DV)} {ents : List MapEntry} (h : EntsR ρ es ents) {x : DV × DV} {e : MapEntry} (hx : EntR ρ x e) : EntsR ρ (es ++ [x]) (ents ++ [e]) := by
  induction h with
  | nil => exact .cons hx .nil
  | cons a _ ih => exact .cons a ih

theorem EntsR.erase {es : List (DV × DV)} {ents : List MapEntry} (h : EntsR ρ es ents) : ∀ (i : Nat), EntsR ρ (es.eraseIdx i) (ents.eraseIdx i) := by
  induction h with
  | nil => intro i; simp; exact .nil
  | cons a r ih =>
    intro i
    cases i with
    | zero => simpa using r
    | succ i => simp only [List.eraseIdx_cons_succ]; exact .cons a (ih i)

theorem under_of_eqT {t : TypeId} {x y : DV} {b : Bool} (h : eqT P 20 t x y = some b) : ∃ td, P.underlying t = some td := by
  cases hq : P.underlying t with
  | none => simp only [eqT, hq] at h; cases h
  | some td => exact ⟨td, rfl⟩

theorem update_sound {H H' : DH} {w : World} (ha : Agree ρ H w) {t : TypeId} {m k x : DV} {vm vk vx : Value} (h : updateD P t H m k x = some H') (hm : VR ρ m vm) (hk : VR ρ k vk) (hx : VR ρ x vx) :
    ∃ w', (Instr.mapUpdate t vm vk vx).run P w = .ok () w' ∧ Moves ρ H w ρ H' w' := by
  unfold updateD at h
  split at h
  · rename_i kt e l hu
    split at h
    · rename_i es ho
      split at h
      · rename_i hko
        cases hset : setEntry P kt k x es with
        | none => rw [hset] at h; cases h
        | some es' =>
          rw [hset] at h
          cases h
          simp only [VR] at hm
          obtain ⟨pl, hp, rfl⟩ := hm
          obtain ⟨pl', hp', ents, clock, hb, he⟩ := ha.obj l _ ho
          rw [hp] at hp'
          cases hp'
          have hkk := (keq_eqT (keyOk_eqT hko)).1
          obtain ⟨td, htd⟩ := under_of_eqT hkk
          have hg : (getObj pl.block).run P w = .ok (.map ents clock) w := by simp [getObj, Sem.run, hb]
          have hck := checkKey_sound (P := P) 20 10000 kt k vk false w hkk (by omega) hk
          have hlt := ha.lies l pl hp
          have hso : ∀ o, (setObj pl.block o).run P w = .ok () { w with heap := w.heap.setIfInBounds pl.block o } := by intro o; simp [setObj, Sem.run, hb]
          have hmoves : ∀ (ents' : Array MapEntry) (clock' : Nat), EntsR ρ es' ents'.toList → Moves ρ H w ρ (H.set l (some (.map es'))) { w with heap := w.heap.setIfInBounds pl.block (.map ents' clock') } := by
            intro ents' clock' he'
            refine moves_set ha ho rfl rfl hp (oneBlock_set _ _ _) ⟨ents', clock', ?_, he'⟩
            simp [Array.getElem?_setIfInBounds, hlt]
          unfold setEntry at hset
          cases hf : findD P kt k es with
          | none => rw [hf] at hset; cases hset
          | some r =>
            rw [hf] at hset
            obtain ⟨q, hq, hqr⟩ := findKey_sound htd hk he hf w
            cases r with
            | none =>
              simp only at hset
              cases hset
              simp only [FoundR] at hqr
              subst hqr
              refine ⟨_, ?_, hmoves (ents.push { key := vk, val := vx, born := clock }) (clock + 1) ?_⟩
              · simp only [Instr.mapUpdate, Sem.run_bind, r_underlying hu, Result.andThen_ok, hg, hck, hq, hso]
              · rw [Array.toList_push]; exact he.snoc ⟨hk, hx⟩
            | some y =>
              obtain ⟨i, u⟩ := y
              simp only at hset
              cases hset
              simp only [FoundR] at hqr
              obtain ⟨z, rfl, hz⟩ := hqr
              obtain ⟨k', hk1, hk2, hk3⟩ := findD_entry hf
              obtain ⟨en, hen, henr⟩ := he.get hk1
              rw [Array.getElem?_toList] at hen
              have hsame := same_key hk henr.key hk2 hk3
              have hstay : (Instr.keyThatStays (((ents[i]?).map (·.key)).getD vk) vk).run P w = .ok vk w := by
                simp [hen, Instr.keyThatStays, hsame]
              refine ⟨_, ?_, hmoves (ents.modify i fun e => { e with key := vk, val := vx }) clock ?_⟩
              · simp only [Instr.mapUpdate, Sem.run_bind, r_underlying hu, Result.andThen_ok, hg, hck, hq, hstay, hso]
              · rw [Array.toList_modify]
                exact he.set i fun e _ => ⟨hk, hx⟩
      · cases h
    · cases h
  · cases h

theorem delete_sound {H H' : DH} {w : World} (ha : Agree ρ H w) {t t2 ty : TypeId} {m k : DV} {vm vk : Value} (h : deleteD P t H m k = some H') (hm : VR ρ m vm) (hk : VR ρ k vk) :
    ∃ w', (Builtin.delete_ #[t, t2] ty #[vm, vk]).run P w = .ok (.tuple #[]) w' ∧ Moves ρ H w ρ H' w' := by
  unfold deleteD at h
  split at h
  · rename_i kt e l hu
    split at h
    · rename_i es ho
      split at h
      · rename_i hko
        cases hset : dropEntry P kt k es with
        | none => rw [hset] at h; cases h
        | some es' =>
          rw [hset] at h
          cases h
          simp only [VR] at hm
          obtain ⟨pl, hp, rfl⟩ := hm
          obtain ⟨pl', hp', ents, clock, hb, he⟩ := ha.obj l _ ho
          rw [hp] at hp'
          cases hp'
          have hkk := (keq_eqT (keyOk_eqT hko)).1
          obtain ⟨td, htd⟩ := under_of_eqT hkk
          have hg : (getObj pl.block).run P w = .ok (.map ents clock) w := by simp [getObj, Sem.run, hb]
          have hck := checkKey_sound (P := P) 20 10000 kt k vk ents.isEmpty w hkk (by omega) hk
          have hlt := ha.lies l pl hp
          have hso : ∀ o, (setObj pl.block o).run P w = .ok () { w with heap := w.heap.setIfInBounds pl.block o } := by intro o; simp [setObj, Sem.run, hb]
          have hmoves : ∀ (ents' : Array MapEntry) (clock' : Nat), EntsR ρ es' ents'.toList → Moves ρ H w ρ (H.set l (some (.map es'))) { w with heap := w.heap.setIfInBounds pl.block (.map ents' clock') } := by
            intro ents' clock' he'
            refine moves_set ha ho rfl rfl hp (oneBlock_set _ _ _) ⟨ents', clock', ?_, he'⟩
            simp [Array.getElem?_setIfInBounds, hlt]
          unfold dropEntry at hset
          cases hf : findD P kt k es with
          | none => rw [hf] at hset; cases hset
          | some r =>
            rw [hf] at hset
            obtain ⟨q, hq, hqr⟩ := findKey_sound htd hk he hf w
            cases r with
            | none =>
              simp only at hset
              cases hset
              simp only [FoundR] at hqr
              subst hqr
              refine ⟨_, ?_, hmoves ents clock he⟩
              simp only [Builtin.delete_, List.getElem?_toArray, List.getElem?_cons_zero, List.getElem?_cons_succ, Sem.run_bind, r_underlying hu, Result.andThen_ok, hg, hck, hq, hso, Sem.run_pure]
            | some y =>
              obtain ⟨i, u⟩ := y
              simp only at hset
              cases hset
              simp only [FoundR] at hqr
              obtain ⟨z, rfl, hz⟩ := hqr
              refine ⟨_, ?_, hmoves (ents.eraseIdxIfInBounds i) clock ?_⟩
              · simp only [Builtin.delete_, List.getElem?_toArray, List.getElem?_cons_zero, List.getElem?_cons_succ, Sem.run_bind, r_underlying hu, Result.andThen_ok, hg, hck, hq, hso, Sem.run_pure]
              · have : (ents.eraseIdxIfInBounds i).toList = ents.toList.eraseIdx i := by
                  rw [Array.eraseIdxIfInBounds]
                  split
                  · rw [Array.toList_eraseIdx]
                  · rename_i hn
                    rw [List.eraseIdx_of_length_le (by simpa using hn)]
                rw [this]
                exact he.erase i
      · cases h
    · cases h
  · cases h

theorem zeroCells_eq (zc : Array Value) (n : Nat) {sz : Nat} (h : zc.size = sz + 1) : Builtin.zeroCells zc n = (Array.range (n * (sz + 1))).map (zc[· % zc.size]!) := by
  unfold Builtin.zeroCells
  rw [h]

theorem zeroCells_sound {z : DV} {zv : Value} (hz : VR ρ z zv) {sz : Nat} (hs : z.cells.length = sz + 1) (n : Nat) : VRs ρ (zerosD z.cells n).flatten (Builtin.zeroCells zv.cells n).toList := by
  have hc := VR.cells hz
  have hl := VRs.length hc
  simp only [Array.length_toList] at hl
  rw [zeroCells_eq _ _ (by omega : zv.cells.size = sz + 1)]
  exact zero_cells hc hs n

theorem clear_sound {H H' : DH} {w : World} (ha : Agree ρ H w) {t ty : TypeId} {x : DV} {v : Value} (h : clearD P t H x = some H') (hx : VR ρ x v) :
    ∃ w', (Builtin.clear_ #[t] ty #[v]).run P w = .ok (.tuple #[]) w' ∧ Moves ρ H w ρ H' w' := by
  unfold clearD at h
  split at h
  · rename_i e n c ex hu
    cases h
    simp only [VR] at hx
    obtain ⟨rfl, rfl, rfl⟩ := hx
    refine ⟨w, ?_, Moves.refl ha⟩
    simp [Builtin.clear_, r_underlying hu]
  · rename_i e p c ex hne hu
    cases h
    refine ⟨w, ?_, Moves.refl ha⟩
    cases p with
    | none => simp only [VR] at hx; obtain ⟨_, rfl, rfl⟩ := hx; simp [Builtin.clear_, r_underlying hu]
    | some p => obtain ⟨l, i, z⟩ := p; simp only [VR] at hx; obtain ⟨pl, a, c', hp, hz, rfl, _⟩ := hx; simp [Builtin.clear_, r_underlying hu]
  · rename_i e l i z n c ex hne hu
    split at h
    · rename_i sz rs zd ho hz
      split at h
      · rename_i hc
        obtain ⟨hzl, hz1, hle, hs⟩ := hc
        cases h
        simp only [VR] at hx
        obtain ⟨pl, a, c', hp, hpz, rfl, hnc, hcc, hex, htot, haa⟩ := hx
        obtain ⟨h1, h2, h3, h4⟩ := ha.rows_sz ho hp
        cases n with
        | zero => exact (hne rfl).elim
        | succ n =>
          have ha0 : a = pl.addr i 0 := by
            rcases haa with h | h
            · omega
            · exact h
          subst ha0
          obtain ⟨zv, hzr, hzv⟩ := r_zero hz ρ w
          · have hzc := zeroCells_sound hzv hzl (n + 1)
            have hrl : ∀ r ∈ zerosD zd.cells (n + 1), r.length = sz + 1 := by intro r hr; rw [(List.mem_replicate.mp hr).2]; exact hzl
            have hpat := patched_rows h3 hrl (show i ≤ rs.length by omega)
            have hfl := flatten_len hrl
            have hzn : (zerosD zd.cells (n + 1)).length = n + 1 := by simp [zerosD]
            have hb : i * (sz + 1) + (zerosD zd.cells (n + 1)).flatten.length ≤ pl.tot * (sz + 1) := by
              rw [hfl, hzn, ← Nat.add_mul]
              exact Nat.mul_le_mul_right _ (by omega)
            obtain ⟨hrun, hobj⟩ := obj_write (P := P) h4 hpat (by simp [setRows, hzn]; omega) hb hzc (by
              rw [flat_all, List.all_eq_true]; intro r hr; rw [(List.mem_replicate.mp hr).2]; exact hz1)
            refine ⟨_, ?_, moves_set ha ho rfl rfl hp (setCells_one _ _ _ _) hobj⟩
            have hadr : pl.addr i 0 = ⟨pl.block, pl.off + i * (sz + 1), none⟩ := by unfold Pl.addr; rw [h1]; rfl
            rw [hadr]
            simp [Builtin.clear_, r_underlying hu, hzr, hrun]
      · cases h
    · cases h
  · cases h
end
end Go.Det
