/- The operations that read. -/
import Derived.Laws.BytesString
import Derived.Laws.IdiomCopy
import Derived.Test.YtlmjhpnmfmnmgaaDoorCovT2
namespace Go.Det
set_option linter.unusedVariables false
set_option linter.unusedSimpArgs false
section
variable {P : Program} {ρ : Rho}
theorem cells_of (b : Option Obj) : ∀ (r : List DV) (o : Nat), (∀ (j : Nat) (d : DV), r[j]? = some d → CR ρ b (o + j) d) → ∃ vs : List Value, VRs ρ r vs ∧ ∀ (j : Nat) (v : Value), vs[j]? = some v → cellAt b (o + j) = some v
  | [], o, _ => ⟨[], .nil, fun j v h => by simp at h⟩
  | d :: r, o, h => by
    obtain ⟨_, c, hc, hv⟩ := h 0 d (by simp)
    obtain ⟨vs, h1, h2⟩ := cells_of b r (o + 1) (fun j d' hd => by
      have := h (j + 1) d' (by simpa using hd)
      rwa [show o + (j + 1) = o + 1 + j by omega] at this)
    refine ⟨c :: vs, .cons hv h1, fun j v hj => ?_⟩
    cases j with
    | zero => simp at hj; subst hj; simpa using hc
    | succ j =>
      have := h2 j v (by simpa using hj)
      rwa [show o + 1 + j = o + (j + 1) by omega] at this
theorem addr_add0 (pl : Pl) (i o j : Nat) : (pl.addr i o).add j = ⟨pl.block, pl.off + i * pl.sz + o + j, none⟩ := by
  unfold Addr.add Pl.addr
  split
  · rename_i h; subst h; rfl
  · rfl
theorem Agree.row {H : DH} {w : World} (ha : Agree ρ H w) {l : Nat} {ro : Bool} {sz : Nat} {rs : List (List DV)} (ho : H.obj l = some (.rows ro sz rs)) {pl : Pl} (hp : ρ l = some pl) {i : Nat} {r : List DV} (hr : rs[i]? = some r) :
    r.all DV.one = true ∧ r.length = pl.sz ∧ ∀ (j : Nat) (d : DV), r[j]? = some d → CR ρ w.heap[pl.block]? (pl.off + i * pl.sz + j) d := by
  obtain ⟨pl', hp', h1, h2, h3, h4⟩ := ha.obj l _ ho
  rw [hp] at hp'
  cases hp'
  obtain ⟨hl, hc⟩ := h3 i r hr
  rw [← h1] at hc hl
  refine ⟨?_, hl, hc⟩
  rw [List.all_eq_true]
  intro x hx
  obtain ⟨j, hj, rfl⟩ := List.getElem_of_mem hx
  exact (hc j _ (List.getElem?_eq_getElem hj)).1
theorem load_sound {t : TypeId} {H : DH} {x d : DV} {v : Value} {w : World} (h : loadD P t H x = some d) (hx : VR ρ x v) (ha : Agree ρ H w) : ∃ u, (Instr.loadAt t v).run P w = .ok u w ∧ VR ρ d u := by
  unfold loadD at h
  split at h
  · rename_i l i o
    split at h
    · rename_i ro sz rs ho
      split at h
      · rename_i r hr
        simp only [VR] at hx
        obtain ⟨pl, hp, rfl⟩ := hx
        obtain ⟨h1, hl, hc⟩ := ha.row ho hp hr
        unfold partD at h
        split at h
        · rename_i n hag hs
          split at h
          · rename_i hle
            cases h
            obtain ⟨vs, hvs, hcs⟩ := cells_of w.heap[pl.block]? ((r.drop o).take n) (pl.off + i * pl.sz + o) (fun j d hd => by
              rw [List.getElem?_take] at hd
              split at hd
              · rw [List.getElem?_drop] at hd
                have := hc _ _ hd
                rwa [show pl.off + i * pl.sz + (o + j) = pl.off + i * pl.sz + o + j by omega] at this
              · cases hd)
            have hlen : vs.length = n := by rw [VRs.length hvs]; simp; omega
            have hrun := run_loadCells_list (P := P) w (pl.addr i o) vs (fun j v hj => by rw [addr_add0, cell?_eq]; exact hcs j v hj)
            rw [hlen] at hrun
            refine ⟨.agg vs.toArray, ?_, ?_⟩
            · simp [Instr.loadAt, Instr.sureAddr, loadVar, r_isAgg hag, r_sizeOf hs, hrun]
            · simp only [VR]
              exact ⟨all_take _ (all_drop _ h1), _, rfl, by simpa using hvs⟩
          · cases h
        · rename_i hag hs
          obtain ⟨_, c, hcc, hv⟩ := hc _ _ h
          refine ⟨c, ?_, hv⟩
          have : w.cell? (pl.addr i o) = some c := by
            unfold Pl.addr
            rw [cell?_eq]
            exact hcc
          simp [Instr.loadAt, Instr.sureAddr, loadVar, r_isAgg hag, this]
        · cases h
      · cases h
    · cases h
  · cases h
/-! #### rows of a slice -/
theorem rows_of {H : DH} {w : World} (ha : Agree ρ H w) {l i n : Nat} {ro : Bool} {sz : Nat} {rs : List (List DV)} (ho : H.obj l = some (.rows ro sz rs)) {pl : Pl} (hp : ρ l = some pl) (hle : i + n ≤ rs.length) :
    ∃ vs : List Value, VRs ρ ((rs.drop i).take n).flatten vs ∧ vs.length = n * pl.sz ∧ (∀ (j : Nat) (v : Value), vs[j]? = some v → w.cell? ((pl.addr i 0).add j) = some v) ∧ ((rs.drop i).take n).flatten.all DV.one = true ∧ ∀ r ∈ (rs.drop i).take n, r.length = pl.sz := by
  have key : ∀ (n i : Nat), i + n ≤ rs.length → ∃ vs : List Value, VRs ρ ((rs.drop i).take n).flatten vs ∧ vs.length = n * pl.sz ∧ (∀ (j : Nat) (v : Value), vs[j]? = some v → cellAt w.heap[pl.block]? (pl.off + i * pl.sz + j) = some v) ∧ ((rs.drop i).take n).flatten.all DV.one = true ∧ ∀ r ∈ (rs.drop i).take n, r.length = pl.sz := by
    intro n
    induction n with
    | zero => intro i _; exact ⟨[], by simp [VRs], by simp, by simp, by simp, by simp⟩
    | succ n ih =>
      intro i hi
      have hlt : i < rs.length := by omega
      have hr : rs[i]? = some rs[i] := List.getElem?_eq_getElem hlt
      obtain ⟨h1, hl, hc⟩ := ha.row ho hp hr
      obtain ⟨us, hus, hcs⟩ := cells_of w.heap[pl.block]? rs[i] (pl.off + i * pl.sz) hc
      obtain ⟨vs, hvs, hlen, hcell, hall, hrl⟩ := ih (i + 1) (by omega)
      have hd : (rs.drop i).take (n + 1) = rs[i] :: (rs.drop (i + 1)).take n := by
        rw [List.drop_eq_getElem_cons hlt, List.take_succ_cons]
      rw [hd]
      have hul : us.length = pl.sz := by rw [VRs.length hus, hl]
      refine ⟨us ++ vs, by rw [List.flatten_cons]; exact hus.append hvs, by rw [List.length_append, hul, hlen, Nat.add_mul]; omega, ?_, ?_, ?_⟩
      · intro j v hj
        rw [List.getElem?_append] at hj
        split at hj
        · exact hcs j v hj
        · rename_i hge
          have := hcell _ v hj
          rw [hul] at this hge
          have e : pl.off + (i + 1) * pl.sz + (j - pl.sz) = pl.off + i * pl.sz + j := by
            rw [Nat.add_mul]; omega
          rwa [e] at this
      · rw [List.flatten_cons, List.all_append, h1, hall]; rfl
      · intro r hr'
        rcases List.mem_cons.mp hr' with rfl | hm
        · exact hl
        · exact hrl r hm
  obtain ⟨vs, h1, h2, h3, h4, h5⟩ := key n i hle
  refine ⟨vs, h1, h2, fun j v hj => ?_, h4, h5⟩
  rw [addr_add0, cell?_eq]
  exact h3 j v hj
theorem bytes_flat : ∀ {rs : List (List DV)} {l : List UInt8}, bytesOf rs = some l → ∃ ns : List Int, rs.flatten = ns.map (DV.int .u8) ∧ l = ns.map (fun n => UInt8.ofNat n.toNat) ∧ ns.length = rs.length
  | [], _, h => by simp only [bytesOf] at h; cases h; exact ⟨[], rfl, rfl, rfl⟩
  | r :: rs, l, h => by
    unfold bytesOf at h
    split at h
    · rename_i e; cases e
    · rename_i n rs' e
      cases e
      split at h
      · rename_i l' hl'
        cases h
        obtain ⟨ns, h1, h2, h3⟩ := bytes_flat hl'
        exact ⟨n :: ns, by simp [h1], by simp [h2], by simp [h3]⟩
      · cases h
    · cases h
theorem VRs_ints : ∀ {ns : List Int} {vs : List Value}, VRs ρ (ns.map (DV.int .u8)) vs → vs = ns.map (Value.int .u8)
  | [], vs, h => by simpa [VRs] using h
  | n :: ns, vs, h => by
    simp only [List.map_cons, VRs] at h
    obtain ⟨v, r, rfl, h1, h2⟩ := h
    simp only [VR] at h1
    rw [h1, VRs_ints h2]
    rfl
theorem push_fold : ∀ (ns : List Int) (s : ByteArray), ns.foldl (fun r n => r.push (UInt8.ofNat n.toNat)) s = ⟨(s.data.toList ++ ns.map fun n => UInt8.ofNat n.toNat).toArray⟩
  | [], s => by simp
  | n :: ns, s => by
    rw [List.foldl_cons, push_fold ns]
    congr 1
    have : (s.push (UInt8.ofNat n.toNat)).data = s.data.push (UInt8.ofNat n.toNat) := rfl
    rw [this]
    simp
theorem bytesString_sound {H : DH} {w : World} (ha : Agree ρ H w) {x : DV} {rs : List (List DV)} {l : List UInt8} {v : Value} (h : rowsOf H x = some rs) (hb : bytesOf rs = some l) (hx : VR ρ x v) :
    (Conv.bytesToString v).run P w = .ok (.string ⟨l.toArray⟩) w := by
  obtain ⟨ns, hf, hl, hn⟩ := bytes_flat hb
  unfold rowsOf at h
  split at h
  · rename_i c ex
    cases h
    simp only [bytesOf] at hb
    cases hb
    simp only [VR] at hx
    obtain ⟨_, _, rfl⟩ := hx
    simp [Conv.bytesToString]; rfl
  · rename_i b i z n c ex
    split at h
    · rename_i ro sz rs' ho
      split at h
      · rename_i hle
        cases h
        simp only [VR] at hx
        obtain ⟨pl, a, c', hp, hz, rfl, hnc, hcc, hex, htot, haa⟩ := hx
        obtain ⟨vs, hvs, hlen, hcell, hall, hrl⟩ := rows_of ha ho hp hle
        rw [hf] at hvs
        have hvs' := VRs_ints hvs
        have hlen1 : ns.length = n := by rw [hn]; simp; omega
        have hload : (loadCells a n).run P w = .ok (ns.map (Value.int .u8)).toArray w := by
          rcases haa with h0 | h0
          · have : n = 0 := by omega
            subst this
            have : ns = [] := List.length_eq_zero_iff.mp hlen1
            subst this
            simp [loadCells, loadCellsFrom]
          · rw [h0]
            have := run_loadCells_list (P := P) w (pl.addr i 0) vs hcell
            rw [hvs'] at this
            simpa [hlen1] using this
        rw [run_bytesToString w a n c' ns hload, push_fold, hl]
        simp
      · cases h
    · cases h
  · cases h
end
end Go.Det

/- The operations that read: maps, and all of them together. -/
namespace Go.Det
set_option linter.unusedVariables false
set_option linter.unusedSimpArgs false
section
variable {P : Program} {ρ : Rho}
theorem forIn_fields (xs : Array Field) (g : Field → PUnit → Sem (ForInStep PUnit)) (w : World) (h : ∀ f ∈ xs.toList, ∀ r, (g f r).run P w = .ok (.yield PUnit.unit) w) :
    (forIn xs PUnit.unit g : Sem PUnit).run P w = .ok PUnit.unit w := by
  rw [← Array.forIn_toList]
  generalize xs.toList = l at h
  induction l with
  | nil => simp
  | cons f l ih =>
    simp only [List.forIn_cons, Sem.run_bind, h f (by simp) _, Result.andThen_ok]
    exact ih fun f hf => h f (by simp [hf])
theorem eqFs_parts {g : TypeId → DV → DV → Option Bool} {xs : List DV} : ∀ {l : List Field}, eqFs P g xs xs l = some true → ∀ f ∈ l, f.name ≠ "_" → ∃ a, partD P f.type xs f.offset = some a ∧ g f.type a a = some true
  | [], _, f, hf, _ => by cases hf
  | f' :: l, h, f, hf, hn => by
    simp only [eqFs] at h
    split at h
    · rename_i hg
      rcases List.mem_cons.mp hf with rfl | hm
      · exact absurd hg hn
      · exact eqFs_parts h f hm hn
    · cases ha : partD P f'.type xs f'.offset with
      | none => rw [ha] at h; cases h
      | some a =>
        rw [ha] at h
        simp only at h
        split at h
        · rename_i he
          rcases List.mem_cons.mp hf with rfl | hm
          · exact ⟨a, ha, he⟩
          · exact eqFs_parts h f hm hn
        · cases h
        · cases h
theorem checkKey_sound : ∀ (d D : Nat) (t : TypeId) (x : DV) (v : Value) (e : Bool) (w : World), eqT P d t x x = some true → d ≤ D → VR ρ x v → (Instr.checkKey e D t v).run P w = .ok () w
  | 0, _, _, _, _, _, _, h, _, _ => by simp [eqT] at h
  | d + 1, 0, _, _, _, _, _, _, hd, _ => by omega
  | d + 1, D + 1, t, x, v, e, w, h, hd, hx => by
    simp only [eqT] at h
    cases hu : P.underlying t with
    | none => rw [hu] at h; cases h
    | some td =>
      rw [hu] at h
      simp only [Instr.checkKey, Sem.run_bind, r_underlying hu, Result.andThen_ok]
      cases td with
      | interface ms => exfalso; cases x <;> simp at h
      | array n e => exfalso; cases x <;> simp at h
      | struct fs =>
        cases x with
        | agg xs =>
          simp only at h
          split at h
          · cases h
          · rename_i hc
            simp only [not_or, Bool.not_eq_true, Bool.not_eq_false] at hc
            obtain ⟨hst, h1, h2⟩ := hc
            simp only [VR] at hx
            obtain ⟨_, cx, rfl, hx⟩ := hx
            have hloop : ∀ (g : Field → PUnit → Sem (ForInStep PUnit)), (g = fun f _ => if f.name ≠ "_" then do
                let x ← part f.type cx f.offset
                Instr.checkKey e D f.type x
                pure (ForInStep.yield PUnit.unit)
              else pure (ForInStep.yield PUnit.unit)) → (forIn fs PUnit.unit g : Sem PUnit).run P w = .ok PUnit.unit w := by
              rintro g rfl
              refine forIn_fields _ _ _ fun f hf r => ?_
              by_cases hn : f.name = "_"
              · simp [hn]
              · obtain ⟨a, ha, he⟩ := eqFs_parts h f hf hn
                obtain ⟨va, hra, hva⟩ := part_sound ha hx h1 w
                have := checkKey_sound d D f.type a va e w he (by omega) hva
                simp [hn, hra, this]
            show ((forIn fs PUnit.unit _ : Sem PUnit) >>= fun _ => (pure () : Sem Unit)).run P w = _
            rw [Sem.run_bind, hloop _ rfl]
            rfl
        | _ => exfalso; simp at h
      | _ => cases v <;> rfl
theorem keq_eqT {t : TypeId} {k k' : DV} {b : Bool} (h : keq P t k k' = some b) : eqT P 20 t k k' = some b ∧ (b = true → DV.beq k k' = true ∧ plainKey k = true) := by
  unfold keq at h
  split at h
  · rename_i he
    split at h
    · rename_i hc; cases h; exact ⟨he, fun _ => by simpa using hc⟩
    · cases h
  · rename_i he; cases h; exact ⟨he, fun h => by cases h⟩
  · cases h
def FoundR (ρ : Rho) : Option (Nat × DV) → Option (Nat × Value) → Prop
  | none, v => v = none
  | some (i, d), v => ∃ x, v = some (i, x) ∧ VR ρ d x
theorem findAsking_sound {t : TypeId} {k : DV} {vk : Value} (hk : VR ρ k vk) (w : World) : ∀ {es : List (DV × DV)} {ents : List MapEntry} {r : Option (Nat × DV)} (n : Nat), EntsR ρ es ents → findD P t k es = some r →
    ∃ q, (Instr.findAsking t vk ents n).run P w = .ok q w ∧ FoundR ρ (r.map fun x => (x.1 + n, x.2)) q
  | [], _, r, n, he, h => by
    cases he
    simp only [findD] at h
    cases h
    exact ⟨none, by simp [Instr.findAsking], rfl⟩
  | (k', v') :: es, _, r, n, he, h => by
    cases he with
    | cons hx hes =>
      rename_i e ents
      simp only [findD] at h
      split at h
      · rename_i hq
        cases h
        obtain ⟨h1, _⟩ := keq_eqT hq
        have := eqT_sound 20 10000 t k k' vk e.key true w h1 (by omega) hk hx.key
        refine ⟨some (n, e.val), by simp [Instr.findAsking, Op.equal, Op.maxDepth, this], ?_⟩
        simp only [Option.map_some, FoundR, Nat.zero_add]
        exact ⟨_, rfl, hx.val⟩
      · rename_i hq
        obtain ⟨h1, _⟩ := keq_eqT hq
        have := eqT_sound 20 10000 t k k' vk e.key false w h1 (by omega) hk hx.key
        cases hf : findD P t k es with
        | none => rw [hf] at h; cases h
        | some r' =>
          rw [hf] at h
          cases h
          obtain ⟨q, hr, hq'⟩ := findAsking_sound hk w (n + 1) hes hf
          refine ⟨q, by simp [Instr.findAsking, Op.equal, Op.maxDepth, this, hr], ?_⟩
          cases r' with
          | none => simpa using hq'
          | some x =>
            simp only [Option.map_some, FoundR] at hq' ⊢
            obtain ⟨y, hy, hyr⟩ := hq'
            exact ⟨y, by rw [hy]; simp; omega, hyr⟩
      · cases h
theorem findNow_sound {t : TypeId} {td : TypeDesc} (hu : P.underlying t = some td) {k : DV} {vk : Value} (hk : VR ρ k vk) : ∀ {es : List (DV × DV)} {ents : List MapEntry} {r : Option (Nat × DV)} (n : Nat) {q : Option (Nat × Value)}, EntsR ρ es ents → findD P t k es = some r →
    Instr.findNow td vk ents n = some q → FoundR ρ (r.map fun x => (x.1 + n, x.2)) q
  | [], _, r, n, q, he, h, hq => by
    cases he
    simp only [findD] at h
    cases h
    simp only [Instr.findNow] at hq
    cases hq
    rfl
  | (k', v') :: es, _, r, n, q, he, h, hq => by
    cases he with
    | cons hx hes =>
      rename_i e ents
      simp only [findD] at h
      simp only [Instr.findNow] at hq
      have same : ∀ b b', Instr.sameNow td vk e.key = some b → keq P t k k' = some b' → b = b' := by
        intro b b' h1 h2
        obtain ⟨h3, _⟩ := keq_eqT h2
        have := eqT_sound 20 (19 + 1) t k k' vk e.key b' default h3 (by omega) hk hx.key
        have hkey : ∀ td' v1 v2, td' = td → v1 = vk → v2 = e.key → Instr.sameNow td' v1 v2 = some b → b = b' := by
          intro td' v1 v2 e1 e2 e3 h1
          unfold Instr.sameNow at h1
          split at h1
          · split at h1
            · rename_i hj
              cases h1
              subst hj
              rw [← e2, ← e3] at this
              rw [← e1] at hu
              rw [run_equalIn_int _ _ _ _ _ _ _ hu] at this
              injection this
            · cases h1
          · cases h1
            rw [← e2, ← e3] at this
            rw [← e1] at hu
            rw [run_equalIn_string _ _ _ _ _ hu, ← beq_toListBytes] at this
            injection this
          · cases h1
            rw [← e2, ← e3] at this
            rw [← e1] at hu
            rw [run_equalIn_bool' _ _ _ _ _ hu] at this
            injection this
          · cases h1
        exact hkey _ _ _ rfl rfl rfl h1
      cases hs : Instr.sameNow td vk e.key with
      | none => rw [hs] at hq; cases hq
      | some b =>
        rw [hs] at hq
        split at h
        · rename_i hkq
          cases h
          have := same _ _ hs hkq
          subst this
          simp only at hq
          cases hq
          simp only [Option.map_some, FoundR, Nat.zero_add]
          exact ⟨_, rfl, hx.val⟩
        · rename_i hkq
          have := same _ _ hs hkq
          subst this
          simp only at hq
          cases hf : findD P t k es with
          | none => rw [hf] at h; cases h
          | some r' =>
            rw [hf] at h
            cases h
            have := findNow_sound hu hk (n + 1) hes hf hq
            cases r' with
            | none => simpa using this
            | some x =>
              simp only [Option.map_some, FoundR] at this ⊢
              obtain ⟨y, hy, hyr⟩ := this
              exact ⟨y, by rw [hy]; simp; omega, hyr⟩
        · cases h
theorem findKey_sound {t : TypeId} {td : TypeDesc} (hu : P.underlying t = some td) {k : DV} {vk : Value} (hk : VR ρ k vk) {es : List (DV × DV)} {ents : List MapEntry} {r : Option (Nat × DV)} (he : EntsR ρ es ents) (h : findD P t k es = some r) (w : World) :
    ∃ q, (Instr.findKey t vk ents).run P w = .ok q w ∧ FoundR ρ r q := by
  have hr : (r.map fun x => (x.1 + 0, x.2)) = r := by cases r <;> rfl
  simp only [Instr.findKey, Sem.run_bind, r_underlying hu, Result.andThen_ok]
  cases hn : Instr.findNow td vk ents 0 with
  | some q =>
    refine ⟨q, rfl, ?_⟩
    have := findNow_sound hu hk 0 he h hn
    rwa [hr] at this
  | none =>
    obtain ⟨q, h1, h2⟩ := findAsking_sound hk w 0 he h
    rw [hr] at h2
    exact ⟨q, h1, h2⟩
theorem EntsR.length {es : List (DV × DV)} {ents : List MapEntry} (h : EntsR ρ es ents) : ents.length = es.length := by
  induction h with
  | nil => rfl
  | cons _ _ ih => simp [ih]
theorem keyOk_eqT {t : TypeId} {k : DV} (h : keyOk P t k = true) : keq P t k k = some true := by
  unfold keyOk at h
  split at h <;> first | exact beq_iff_eq.mp h | cases h
theorem tuple2 {a b : DV} {x y : Value} (h1 : VR ρ a x) (h2 : VR ρ b y) : VR ρ (.tuple [a, b]) (.tuple #[x, y]) := by
  simp only [VR]
  exact ⟨_, rfl, .cons h1 (.one h2)⟩
theorem lookup_sound {t : TypeId} {H : DH} {x k d : DV} {v u : Value} {ok : Bool} {w : World} (h : lookupD P t H x k ok = some d) (hx : VR ρ x v) (hk : VR ρ k u) (ha : Agree ρ H w) :
    ∃ r, (Instr.lookup t v u ok).run P w = .ok r w ∧ VR ρ d r := by
  unfold lookupD at h
  split at h
  · rename_i kt e r hu
    split at h
    case isFalse => cases h
    rename_i hko
    split at h
    case h_2 => cases h
    rename_i es hes
    have hkk := (keq_eqT (keyOk_eqT hko)).1
    obtain ⟨td, htd⟩ : ∃ td, P.underlying kt = some td := by
      cases hq : P.underlying kt with
      | none => simp only [eqT, hq] at hkk; cases hkk
      | some td => exact ⟨td, rfl⟩
    cases hf : findD P kt k es with
    | none => rw [hf] at h; cases h
    | some r' =>
      rw [hf] at h
      have fin : ∀ (ents : Array MapEntry), EntsR ρ es ents.toList → ∃ r, (do
          Instr.checkKey ents.isEmpty 10000 kt u
          let __do_lift ← Instr.findKey kt u ents.toList
          match __do_lift with
          | some (_, v) => do
            let __x ← pure (v, true)
            pure (if ok = true then Value.tuple #[__x.fst, Value.bool __x.snd] else __x.fst)
          | none => do
            let __do_lift ← zeroValue e
            let __x ← pure (__do_lift, false)
            pure (if ok = true then Value.tuple #[__x.fst, Value.bool __x.snd] else __x.fst) : Sem Value).run P w = .ok r w ∧ VR ρ d r := by
        intro ents hents
        have hck := checkKey_sound (P := P) 20 10000 kt k u ents.isEmpty w hkk (by omega) hk
        obtain ⟨q, hq, hqr⟩ := findKey_sound htd hk hents hf w
        rw [Sem.run_bind, hck, Result.andThen_ok, Sem.run_bind, hq, Result.andThen_ok]
        cases r' with
        | none =>
          simp only [FoundR] at hqr
          subst hqr
          simp only at h
          cases hz : zeroT P e with
          | none => rw [hz] at h; cases h
          | some z =>
            rw [hz] at h
            obtain ⟨zv, hzr, hzv⟩ := r_zero hz ρ w
            simp only [Option.map_some, Option.some.injEq] at h
            subst h
            cases ok
            · exact ⟨zv, by simp [hzr], hzv⟩
            · exact ⟨.tuple #[zv, .bool false], by simp [hzr], tuple2 hzv (VR_bool _)⟩
        | some x =>
          obtain ⟨i, d'⟩ := x
          simp only [FoundR] at hqr
          obtain ⟨y, rfl, hy⟩ := hqr
          simp only at h
          cases h
          cases ok
          · exact ⟨y, by simp, hy⟩
          · exact ⟨.tuple #[y, .bool true], by simp, tuple2 hy (VR_bool _)⟩
      unfold mapEs at hes
      split at hes
      · cases hes
        simp only [VR] at hx
        subst hx
        obtain ⟨r, h1, h2⟩ := fin #[] .nil
        refine ⟨r, ?_, h2⟩
        unfold Instr.lookup
        rw [Sem.run_bind, r_underlying hu, Result.andThen_ok]
        exact h1
      · rename_i l
        split at hes
        · rename_i es' ho
          cases hes
          simp only [VR] at hx
          obtain ⟨pl, hp, rfl⟩ := hx
          obtain ⟨pl', hp', ents, clock, hb, he, _⟩ := ha.obj l _ ho
          rw [hp] at hp'
          cases hp'
          obtain ⟨r, h1, h2⟩ := fin ents he
          refine ⟨r, ?_, h2⟩
          have hg : (getObj pl.block).run P w = .ok (.map ents clock) w := by simp [getObj, Sem.run, hb]
          unfold Instr.lookup
          rw [Sem.run_bind, r_underlying hu, Result.andThen_ok]
          show ((getObj pl.block) >>= _ : Sem Value).run P w = _
          rw [Sem.run_bind, hg, Result.andThen_ok]
          exact h1
        · cases hes
  · cases h
theorem read_sound {o : Oper} {ev : Ev} {H : DH} {d : DV} {w : World} (h : readD P o ev H = some d) {e : Operand → Value} (he : EvR ρ ev e) (ha : Agree ρ H w) :
    ∃ v, (execOp e o).run P w = .ok (.value v) w ∧ VR ρ d v := by
  obtain ⟨dst, op, type, pos, after, guard⟩ := o
  unfold readD at h
  simp only at h
  split at h
  · rename_i t a
    split at h
    · rename_i p hp
      obtain ⟨v, hr, hd⟩ := load_sound h (he _ _ hp) ha
      exact ⟨v, by simp only [execOp, Sem.run_bind, hr, Result.andThen_ok, Sem.run_pure], hd⟩
    · cases h
  · rename_i t x k ok
    split at h
    · rename_i m k' hm hk
      obtain ⟨v, hr, hd⟩ := lookup_sound h (he _ _ hm) (he _ _ hk) ha
      exact ⟨v, by simp only [execOp, Sem.run_bind, hr, Result.andThen_ok, Sem.run_pure], hd⟩
    · cases h
  · rename_i s t x
    split at h
    · rename_i e' a hs ht hx
      split at h
      · rename_i hu8
        split at h
        · rename_i rs hrs
          cases hb : bytesOf rs with
          | none => rw [hb] at h; cases h
          | some l =>
            rw [hb] at h
            cases h
            have hxv := he _ _ hx
            have hr := bytesString_sound (P := P) ha hrs hb hxv
            refine ⟨_, ?_, VR_str l⟩
            have hc : (convert s t (e x)).run P w = .ok (.string ⟨l.toArray⟩) w := by
              have hsl : ∃ p n c, e x = .slice p n c := by
                unfold rowsOf at hrs
                split at hrs
                · simp only [VR] at hxv; obtain ⟨_, _, h⟩ := hxv; exact ⟨_, _, _, h⟩
                · simp only [VR] at hxv; obtain ⟨_, _, _, _, _, h, _⟩ := hxv; exact ⟨_, _, _, h⟩
                · cases hrs
              obtain ⟨p, n, c, hsl⟩ := hsl
              rw [hsl] at hr ⊢
              rw [run_convert_bytes_string w s t e' p n c hs hu8 ht]
              exact hr
            simp only [execOp, Sem.run_bind, hc, Result.andThen_ok, Sem.run_pure]
        · cases h
      · cases h
    · cases h
  · rename_i args argTypes
    obtain ⟨args⟩ := args
    obtain ⟨argTypes⟩ := argTypes
    simp only at h
    split at h
    · rename_i x t
      split at h
      · rename_i hu hx
        cases h
        have hxv := he _ _ hx
        simp only [VR] at hxv
        refine ⟨_, ?_, VR_int _ _⟩
        simp [execOp, resolve, invoke, builtin, Builtin.len_, r_underlying hu, hxv, goInt]
      · rename_i kt et l hu hx
        split at h
        · rename_i es ho
          cases h
          have hxv := he _ _ hx
          simp only [VR] at hxv
          obtain ⟨pl, hp, hv⟩ := hxv
          obtain ⟨pl', hp', ents, clock, hb, hee, _⟩ := ha.obj l _ ho
          rw [hp] at hp'
          cases hp'
          refine ⟨_, ?_, VR_int _ _⟩
          have hg : (getObj pl.block).run P w = .ok (.map ents clock) w := by simp [getObj, Sem.run, hb]
          have hlen := EntsR.length hee
          simp only [Array.length_toList] at hlen
          simp [execOp, resolve, invoke, builtin, Builtin.len_, r_underlying hu, hv, goInt, hg, hlen]
        · cases h
      · cases h
    · cases h
  · cases h
end
end Go.Det

/- How the heaps stand for each other behind a new block, behind a block written, behind a place given up. -/
namespace Go.Det
set_option linter.unusedVariables false
set_option linter.unusedSimpArgs false
section
variable {P : Program} {ρ : Rho}
def Rho.add (ρ : Rho) (l : Nat) (pl : Pl) : Rho := fun m => if m = l then some pl else ρ m
theorem Rho.le_add {H : DH} {w : World} (ha : Agree ρ H w) (pl : Pl) : ρ.le (ρ.add H.next pl) := by
  intro l q hq
  have := ha.low l q hq
  unfold Rho.add
  rw [if_neg (by omega)]
  exact hq
theorem Rho.add_same (ρ : Rho) (l : Nat) (pl : Pl) : ρ.add l pl l = some pl := by simp [Rho.add]
theorem Agree.lt {H : DH} {w : World} (ha : Agree ρ H w) {l : Nat} {o : DObj} (h : H.obj l = some o) : l < H.next := by
  obtain ⟨pl, hp, _⟩ := ha.obj l o h
  exact ha.low l pl hp
/-- A new block. -/
theorem moves_new {H : DH} {w : World} (ha : Agree ρ H w) (o : Obj) (d : DObj) (pl : Pl) (hb : pl.block = w.heap.size) (h : ObjR (ρ.add H.next pl) pl (some o) d) :
    Moves ρ H w (ρ.add H.next pl) (H.new d) { w with heap := w.heap.push o } := by
  have hle := Rho.le_add ha pl
  have hget : ∀ k, k < w.heap.size → (w.heap.push o)[k]? = w.heap[k]? := fun k hk => by rw [Array.getElem?_push, if_neg (by omega)]
  have hlast : (w.heap.push o)[w.heap.size]? = some o := by simp
  refine ⟨hle, ⟨?_, ?_, ?_, ?_⟩, rfl, rfl, rfl, Dr.of (Nat.le_refl _), by simp, fun b hb' _ => hget b hb', ?_, fun l q hq => by
    unfold Rho.add at hq
    split at hq
    · cases hq; exact .inr (.inl (by omega))
    · exact .inl hq⟩
  · intro l q hq
    unfold Rho.add at hq
    split at hq
    · rename_i e; subst e; exact Nat.lt_succ_self _
    · exact Nat.lt_succ_of_lt (ha.low l q hq)
  · intro l q hq
    unfold Rho.add at hq
    simp only [Array.size_push]
    split at hq
    · cases hq; omega
    · have := ha.lies l q hq; omega
  · intro l x hx
    simp only [DH.new] at hx
    split at hx
    · rename_i e
      subst e
      cases hx
      exact ⟨pl, Rho.add_same _ _ _, by rw [hb, hlast]; exact h⟩
    · obtain ⟨q, hq, hr⟩ := ha.obj l x hx
      refine ⟨q, hle _ _ hq, ?_⟩
      simp only
      rw [hget _ (ha.lies l q hq)]
      exact hr.mono hle
  · intro l l' x x' q q' hne hx hx' hro hq hq'
    simp only [DH.new] at hx hx'
    unfold Rho.add at hq hq'
    split at hx
    · rename_i e
      rw [if_pos e] at hq
      cases hq
      rw [if_neg (by omega)] at hq' hx'
      have := ha.lies l' q' hq'
      omega
    · rename_i e
      rw [if_neg e] at hq
      split at hx'
      · rename_i e'
        rw [if_pos e'] at hq'
        cases hq'
        have := ha.lies l q hq
        omega
      · rename_i e'
        rw [if_neg e'] at hq'
        exact ha.apart l l' x x' q q' hne hx hx' hro hq hq'
  · rintro b ⟨l, x, q, hx, hro, hq, rfl⟩
    simp only [DH.new] at hx
    unfold Rho.add at hq
    split at hx
    · rename_i e; rw [if_pos e] at hq; cases hq; exact .inr (by omega)
    · rename_i e; rw [if_neg e] at hq; exact .inl ⟨l, x, q, hx, hro, hq, rfl⟩
/-- What another world is: as this one, but for one block. -/
structure OneBlock (w w' : World) (b : Nat) : Prop where
  os : w'.os = w.os
  tape : w'.tape = w.tape
  output : w'.output = w.output
  drawn : w'.drawn = w.drawn
  size : w'.heap.size = w.heap.size
  same : ∀ k, k ≠ b → w'.heap[k]? = w.heap[k]?
/-- A block of the reading's own, written. -/
theorem moves_set {H : DH} {w w' : World} (ha : Agree ρ H w) {l : Nat} {o o' : DObj} {pl : Pl} (ho : H.obj l = some o) (hro : o.ro = false) (hro' : o'.ro = false) (hp : ρ l = some pl) (hw : OneBlock w w' pl.block)
    (h : ObjR ρ pl w'.heap[pl.block]? o') : Moves ρ H w ρ (H.set l (some o')) w' := by
  refine ⟨Rho.le_refl _, ⟨fun m q hq => ha.low m q hq, fun m q hq => by rw [hw.size]; exact ha.lies m q hq, ?_, ?_⟩, hw.os, hw.tape, hw.output, Dr.of (Nat.le_of_eq hw.drawn.symm), Nat.le_of_eq hw.size.symm, ?_, ?_, fun _ _ h => .inl h⟩
  · intro m x hx
    simp only [DH.set] at hx
    split at hx
    · rename_i e; subst e; cases hx; exact ⟨pl, hp, h⟩
    · rename_i e
      obtain ⟨q, hq, hr⟩ := ha.obj m x hx
      refine ⟨q, hq, ?_⟩
      rw [hw.same _ (fun e' => ha.apart l m o x pl q (fun e2 => e e2.symm) ho hx hro hp hq e'.symm)]
      exact hr
  · intro m m' x x' q q' hne hx hx' hr hq hq'
    simp only [DH.set] at hx hx'
    split at hx
    · rename_i e
      subst e
      rw [if_neg (fun e => hne e.symm)] at hx'
      rw [hp] at hq; cases hq
      exact ha.apart m m' o x' pl q' hne ho hx' hro hp hq'
    · split at hx'
      · rename_i e e'
        subst e'
        rw [hp] at hq'; cases hq'
        exact ha.apart m m' x o q pl hne hx ho hr hq hp
      · exact ha.apart m m' x x' q q' hne hx hx' hr hq hq'
  · intro b hb hn
    exact hw.same b fun e => hn ⟨l, o, pl, ho, hro, hp, e.symm⟩
  · rintro b ⟨m, x, q, hx, hr, hq, rfl⟩
    simp only [DH.set] at hx
    split at hx
    · rename_i e; subst e; rw [hp] at hq; cases hq; exact .inl ⟨m, o, pl, ho, hro, hp, rfl⟩
    · exact .inl ⟨m, x, q, hx, hr, hq, rfl⟩
/-- A place given up. -/
theorem moves_kill {H : DH} {w : World} (ha : Agree ρ H w) (l : Nat) : Moves ρ H w ρ (H.set l none) w := by
  refine ⟨Rho.le_refl _, ⟨fun m q hq => ha.low m q hq, ha.lies, ?_, ?_⟩, rfl, rfl, rfl, Dr.of (Nat.le_refl _), Nat.le_refl _, fun _ _ _ => rfl, ?_, fun _ _ h => .inl h⟩
  · intro m x hx
    simp only [DH.set] at hx
    split at hx
    · cases hx
    · exact ha.obj m x hx
  · intro m m' x x' q q' hne hx hx' hr hq hq'
    simp only [DH.set] at hx hx'
    split at hx
    · cases hx
    · split at hx'
      · cases hx'
      · exact ha.apart m m' x x' q q' hne hx hx' hr hq hq'
  · rintro b ⟨m, x, q, hx, hr, hq, rfl⟩
    simp only [DH.set] at hx
    split at hx
    · cases hx
    · exact .inl ⟨m, x, q, hx, hr, hq, rfl⟩
/-- A place given up, and its block written and told under a new one. -/
theorem moves_renew {H : DH} {w w' : World} (ha : Agree ρ H w) {l : Nat} {o o' : DObj} {pl pl' : Pl} (ho : H.obj l = some o) (hro : o.ro = false) (hro' : o'.ro = false) (hp : ρ l = some pl) (hw : OneBlock w w' pl.block) (hb : pl'.block = pl.block)
    (h : ObjR (ρ.add H.next pl') pl' w'.heap[pl.block]? o') : Moves ρ H w (ρ.add H.next pl') ((H.set l none).new o') w' := by
  have hle := Rho.le_add ha pl'
  refine ⟨hle, ⟨?_, ?_, ?_, ?_⟩, hw.os, hw.tape, hw.output, Dr.of (Nat.le_of_eq hw.drawn.symm), Nat.le_of_eq hw.size.symm, ?_, ?_, fun m q hq => by
    unfold Rho.add at hq
    split at hq
    · cases hq; exact .inr (.inr ⟨l, o, pl, ho, hro, hp, hb.symm⟩)
    · exact .inl hq⟩
  · intro m q hq
    unfold Rho.add at hq
    show m < H.next + 1
    split at hq
    · rename_i e; omega
    · exact Nat.lt_succ_of_lt (ha.low m q hq)
  · intro m q hq
    unfold Rho.add at hq
    rw [hw.size]
    split at hq
    · cases hq; rw [hb]; exact ha.lies l pl hp
    · exact ha.lies m q hq
  · intro m x hx
    replace hx : (if m = H.next then some o' else if m = l then none else H.obj m) = some x := hx
    split at hx
    · rename_i e; subst e; cases hx; exact ⟨pl', Rho.add_same _ _ _, by rw [hb]; exact h⟩
    · split at hx
      · cases hx
      · rename_i e1 e
        obtain ⟨q, hq, hr⟩ := ha.obj m x hx
        refine ⟨q, hle _ _ hq, ?_⟩
        rw [hw.same _ (fun e' => ha.apart l m o x pl q (fun e2 => e e2.symm) ho hx hro hp hq e'.symm)]
        exact hr.mono hle
  · intro m m' x x' q q' hne hx hx' hr hq hq'
    replace hx : (if m = H.next then some o' else if m = l then none else H.obj m) = some x := hx
    replace hx' : (if m' = H.next then some o' else if m' = l then none else H.obj m') = some x' := hx'
    unfold Rho.add at hq hq'
    split at hx
    · rename_i e
      rw [if_pos e] at hq; cases hq
      rw [if_neg (by omega)] at hx' hq'
      split at hx'
      · cases hx'
      · rename_i e'
        rw [hb]
        exact ha.apart l m' o x' pl q' (fun e2 => e' e2.symm) ho hx' hro hp hq'
    · rename_i e
      rw [if_neg e] at hq
      split at hx
      · cases hx
      · rename_i e1
        split at hx'
        · rename_i e2
          rw [if_pos e2] at hq'; cases hq'
          rw [hb]
          exact ha.apart m l x o q pl e1 hx ho hr hq hp
        · rename_i e2
          rw [if_neg e2] at hq'
          split at hx'
          · cases hx'
          · exact ha.apart m m' x x' q q' hne hx hx' hr hq hq'
  · intro b hb' hn
    exact hw.same b fun e => hn ⟨l, o, pl, ho, hro, hp, e.symm⟩
  · rintro b ⟨m, x, q, hx, hr, hq, rfl⟩
    replace hx : (if m = H.next then some o' else if m = l then none else H.obj m) = some x := hx
    unfold Rho.add at hq
    split at hx
    · rename_i e; rw [if_pos e] at hq; cases hq; exact .inl ⟨l, o, pl, ho, hro, hp, hb.symm⟩
    · rename_i e
      rw [if_neg e] at hq
      split at hx
      · cases hx
      · exact .inl ⟨m, x, q, hx, hr, hq, rfl⟩
/-! #### cells set -/
theorem setCell_block (w : World) (b o : Nat) (v : Value) (k : Nat) (hk : k ≠ b) : (w.setCell ⟨b, o, none⟩ v).heap[k]? = w.heap[k]? := by
  simp only [World.setCell, Array.getElem?_modify]
  rw [if_neg (fun e => hk e.symm)]
theorem setCells_one (b : Nat) : ∀ (vs : List Value) (o : Nat) (w : World), OneBlock w (w.setCells b o vs) b
  | [], o, w => ⟨rfl, rfl, rfl, rfl, rfl, fun _ _ => rfl⟩
  | v :: r, o, w => by
    have ih := setCells_one b r (o + 1) (w.setCell ⟨b, o, none⟩ v)
    exact ⟨ih.os, ih.tape, ih.output, ih.drawn, ih.size.trans (by simp [World.setCell]), fun k hk => (ih.same k hk).trans (setCell_block w b o v k hk)⟩
theorem setCells_at (b : Nat) : ∀ (vs : List Value) (o : Nat) (w : World) {c : Array Value} {t : TypeId} {fr : Nat × Nat}, w.heap[b]? = some (.cells c t fr) → o + vs.length ≤ c.size →
    ∃ c', (w.setCells b o vs).heap[b]? = some (.cells c' t fr) ∧ c'.size = c.size ∧ ∀ k, c'[k]? = if o ≤ k ∧ k < o + vs.length then vs[k - o]? else c[k]?
  | [], o, w, c, t, fr, h, hl => ⟨c, h, rfl, fun k => by rw [if_neg (by simp)]⟩
  | v :: r, o, w, c, t, fr, h, hl => by
    simp only [List.length_cons] at hl ⊢
    have h1 : (w.setCell ⟨b, o, none⟩ v).heap[b]? = some (.cells (c.setIfInBounds o v) t fr) := by
      simp [World.setCell, Array.getElem?_modify, h]
    obtain ⟨c', hc', hs, hk⟩ := setCells_at b r (o + 1) _ h1 (by simp; omega)
    refine ⟨c', hc', by simpa using hs, fun k => ?_⟩
    rw [hk k]
    by_cases e : o + 1 ≤ k ∧ k < o + 1 + r.length
    · rw [if_pos e, if_pos (by omega)]
      have : k - o = (k - (o + 1)) + 1 := by omega
      rw [this]; rfl
    · rw [if_neg e, Array.getElem?_setIfInBounds]
      by_cases e2 : o = k
      · subst e2
        rw [if_pos rfl, if_pos (by omega), if_pos (by omega)]
        simp
      · rw [if_neg e2, if_neg (by omega)]
/-- Rows in which some cells, told one behind the other, stand in place of what was there. -/
def Patched (rs rs' : List (List DV)) (sz base : Nat) (ds : List DV) : Prop :=
  ∀ i r', rs'[i]? = some r' → r'.length = sz ∧ ∀ j d, r'[j]? = some d → if base ≤ i * sz + j ∧ i * sz + j < base + ds.length then ds[i * sz + j - base]? = some d else ∃ r, rs[i]? = some r ∧ r[j]? = some d
theorem obj_write {pl : Pl} {w : World} {sz base : Nat} {rs rs' : List (List DV)} {ds : List DV} {vs : List Value} (h : ObjR ρ pl w.heap[pl.block]? (.rows false sz rs)) (hp : Patched rs rs' sz base ds) (hl : rs'.length ≤ pl.tot) (hb : base + ds.length ≤ pl.tot * sz)
    (hv : VRs ρ ds vs) (h1 : ds.all DV.one = true) :
    (storeCells ⟨pl.block, pl.off + base, none⟩ vs).run P w = .ok () (w.setCells pl.block (pl.off + base) vs) ∧ ObjR ρ pl (w.setCells pl.block (pl.off + base) vs).heap[pl.block]? (.rows false sz rs') := by
  obtain ⟨hs, htot, hrow, hloose⟩ := h
  obtain ⟨c, t, lo, hi, hblk, hsz, hfree⟩ := hloose rfl
  have hlen := VRs.length hv
  obtain ⟨c', hc', hcs, hck⟩ := setCells_at pl.block vs (pl.off + base) w hblk (by omega)
  constructor
  · have := run_storeCells_cells (P := P) pl.block (pl.off + base) vs 0 w ?_ ?_ ?_
    · simpa using this
    · intro j hj
      rw [cell?_eq, hblk]
      simp only [cellAt]
      have : pl.off + base + 0 + j < c.size := by omega
      rw [Array.getElem?_eq_getElem this]
      rfl
    · intro j hj
      simp only [World.frozen?, hblk]
      have := hfree (pl.off + base + 0 + j) (by omega)
      simpa using this
    · intro v hv'
      obtain ⟨j, hj, rfl⟩ := List.getElem_of_mem hv'
      have hj' : j < ds.length := by omega
      obtain ⟨y, hy, hr⟩ := VRs.get j hv (List.getElem?_eq_getElem hj')
      rw [List.getElem?_eq_getElem hj] at hy
      cases hy
      have := VR.one hr (all_get h1 (List.getElem?_eq_getElem hj'))
      cases hvj : vs[j] <;> simp_all [oneV, Value.oneCell']
  · refine ⟨hs, hl, ?_, fun _ => ⟨c', t, lo, hi, hc', by omega, hfree⟩⟩
    intro i r hr
    obtain ⟨h2, h3⟩ := hp i r hr
    refine ⟨h2, fun j d hd => ?_⟩
    have h4 := h3 j d hd
    rw [hc']
    unfold CR cellAt
    simp only [hck]
    split at h4
    · rename_i hin
      obtain ⟨y, hy, hr'⟩ := VRs.get _ hv h4
      refine ⟨all_get h1 h4, y, ?_, hr'⟩
      rw [if_pos (by omega)]
      rw [← hy]
      congr 1
      omega
    · rename_i hout
      obtain ⟨r0, hr0, hd0⟩ := h4
      obtain ⟨_, hcr⟩ := hrow i r0 hr0
      obtain ⟨ho, cc, hcc, hrr⟩ := hcr j d hd0
      refine ⟨ho, cc, ?_, hrr⟩
      rw [if_neg (by omega)]
      rw [hblk] at hcc
      exact hcc
theorem row_apart {i i' sz o n j : Nat} (hne : i' ≠ i) (hj : j < sz) (ho : o + n ≤ sz) : ¬ (i * sz + o ≤ i' * sz + j ∧ i' * sz + j < i * sz + o + n) := by
  rintro ⟨h1, h2⟩
  rcases Nat.lt_or_gt_of_ne hne with h | h
  · have : (i' + 1) * sz ≤ i * sz := Nat.mul_le_mul_right _ h
    rw [Nat.add_mul] at this
    omega
  · have : (i + 1) * sz ≤ i' * sz := Nat.mul_le_mul_right _ h
    rw [Nat.add_mul] at this
    omega
theorem patched_row {rs rs' : List (List DV)} {sz i o : Nat} {vs : List DV} (hsz : ∀ (i : Nat) (r : List DV), rs[i]? = some r → r.length = sz) (h : setRow rs i o vs = some rs') : Patched rs rs' sz (i * sz + o) vs ∧ rs'.length = rs.length ∧ i < rs.length ∧ o + vs.length ≤ sz ∧ vs.all DV.one = true := by
  unfold setRow at h
  split at h
  · rename_i r hr
    split at h
    · rename_i hc
      cases h
      have hrl := hsz i r hr
      have hi : i < rs.length := (List.getElem?_eq_some_iff.mp hr).1
      refine ⟨?_, by simp, hi, by omega, hc.2⟩
      intro i' r' hr'
      rw [List.getElem?_set] at hr'
      by_cases e : i = i'
      · subst e
        rw [if_pos rfl, if_pos hi] at hr'
        cases hr'
        refine ⟨by rw [splice_length _ _ _ hc.1, hrl], fun j d hd => ?_⟩
        rw [splice_get _ _ _ _ hc.1] at hd
        by_cases e2 : o ≤ j ∧ j < o + vs.length
        · rw [if_pos e2] at hd
          rw [if_pos (by omega)]
          rw [← hd]
          congr 1
          omega
        · rw [if_neg e2] at hd
          rw [if_neg (by omega)]
          exact ⟨r, hr, hd⟩
      · rw [if_neg e] at hr'
        have hl' := hsz i' r' hr'
        refine ⟨hl', fun j d hd => ?_⟩
        have hj : j < sz := by rw [← hl']; exact (List.getElem?_eq_some_iff.mp hd).1
        rw [if_neg (row_apart (fun e' => e e'.symm) hj (by omega))]
        exact ⟨r', hr', hd⟩
    · cases h
  · cases h
theorem flatten_get {sz : Nat} : ∀ {new : List (List DV)}, (∀ r ∈ new, r.length = sz) → ∀ (i j : Nat), j < sz → new.flatten[i * sz + j]? = (new[i]?).bind (·[j]?)
  | [], _, i, j, _ => by simp
  | r :: new, h, i, j, hj => by
    have hr := h r (by simp)
    cases i with
    | zero =>
      rw [List.flatten_cons, Nat.zero_mul, Nat.zero_add, List.getElem?_append_left (by omega)]
      simp
    | succ i =>
      rw [List.flatten_cons, List.getElem?_append_right (by rw [hr, Nat.add_mul]; omega)]
      have : (i + 1) * sz + j - r.length = i * sz + j := by rw [hr, Nat.add_mul]; omega
      rw [this, flatten_get (fun r hr => h r (by simp [hr])) i j hj]
      simp
theorem flatten_len {sz : Nat} : ∀ {new : List (List DV)}, (∀ r ∈ new, r.length = sz) → new.flatten.length = new.length * sz
  | [], _ => by simp
  | r :: new, h => by
    rw [List.flatten_cons, List.length_append, h r (by simp), flatten_len (fun r hr => h r (by simp [hr])), List.length_cons, Nat.add_mul]
    omega
theorem patched_rows {rs new : List (List DV)} {sz i : Nat} (hsz : ∀ (i : Nat) (r : List DV), rs[i]? = some r → r.length = sz) (hn : ∀ r ∈ new, r.length = sz) (hi : i ≤ rs.length) : Patched rs (setRows rs i new) sz (i * sz) new.flatten := by
  intro i' r' hr'
  have hfl := flatten_len hn
  have hmin : min i rs.length = i := by omega
  unfold setRows at hr'
  rw [List.getElem?_append, List.getElem?_append] at hr'
  simp only [List.length_take, hmin, List.getElem?_take, List.getElem?_drop] at hr'
  by_cases h1 : i' < i
  · rw [if_pos h1, if_pos h1] at hr'
    have hl' := hsz _ _ hr'
    refine ⟨hl', fun j d hd => ?_⟩
    have hj : j < sz := by rw [← hl']; exact (List.getElem?_eq_some_iff.mp hd).1
    rw [if_neg]
    · exact ⟨r', hr', hd⟩
    · rintro ⟨h2, _⟩
      have : (i' + 1) * sz ≤ i * sz := Nat.mul_le_mul_right _ h1
      rw [Nat.add_mul] at this
      omega
  · rw [if_neg h1] at hr'
    by_cases h2 : i' - i < new.length
    · rw [if_pos h2] at hr'
      have hl' := hn r' (List.mem_of_getElem? hr')
      refine ⟨hl', fun j d hd => ?_⟩
      have hj : j < sz := by rw [← hl']; exact (List.getElem?_eq_some_iff.mp hd).1
      have e : i' * sz + j = i * sz + ((i' - i) * sz + j) := by
        have : i' = i + (i' - i) := by omega
        conv => lhs; rw [this]
        rw [Nat.add_mul]; omega
      have hlt : (i' - i) * sz + j < new.length * sz := by
        have : (i' - i + 1) * sz ≤ new.length * sz := Nat.mul_le_mul_right _ h2
        rw [Nat.add_mul] at this
        omega
      rw [if_pos (by omega)]
      rw [e, Nat.add_sub_cancel_left, flatten_get hn _ _ hj, hr']
      exact hd
    · rw [if_neg h2] at hr'
      have e : i + new.length + (i' - i - new.length) = i' := by omega
      rw [e] at hr'
      have hl' := hsz _ _ hr'
      refine ⟨hl', fun j d hd => ?_⟩
      rw [if_neg]
      · exact ⟨r', hr', hd⟩
      · rintro ⟨_, h3⟩
        have : (i + new.length) * sz ≤ i' * sz := Nat.mul_le_mul_right _ (by omega)
        rw [Nat.add_mul] at this
        omega
end
end Go.Det
