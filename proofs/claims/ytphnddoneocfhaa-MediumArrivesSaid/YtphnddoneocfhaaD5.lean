/- What the machine does at an operation that neither reads nor writes. -/
import Derived.Test.YtphnddoneocfhaaD4
namespace Go.Det
set_option linter.unusedVariables false
set_option linter.unusedSimpArgs false

section
variable {P : Program} {ρ : Rho}

theorem size_mk (s : List UInt8) : (⟨s.toArray⟩ : ByteArray).size = s.length := by
  show s.toArray.size = s.length
  simp

theorem fieldAddr_sound {s : TypeId} {x d : DV} {v : Value} {f : Nat} (h : fieldAddrD P s x f = some d) (hx : VR ρ x v) (w : World) : ∃ u, (Instr.fieldAt s v f).run P w = .ok u w ∧ VR ρ d u := by
  unfold fieldAddrD at h
  split at h
  · rename_i fs l i o hu
    split at h
    · rename_i fl hf
      split at h
      · rename_i n hs
        cases h
        simp only [VR] at hx
        obtain ⟨pl, hp, rfl⟩ := hx
        refine ⟨.pointer (some (pl.addr i (o + fl.offset))), ?_, by simp only [VR]; exact ⟨pl, hp, rfl⟩⟩
        have : (pl.addr i o).add fl.offset = pl.addr i (o + fl.offset) := by
          unfold Addr.add Pl.addr
          split
          · rename_i e; rw [e]; rfl
          · simp only [Addr.mk.injEq, and_true, true_and]; omega
        simp [Instr.fieldAt, r_underlying hu, hf, Instr.sureAddr, fieldPlace, r_sizeOf hs, this]
      · cases h
    · cases h
  · cases h

theorem field_sound {s : TypeId} {x d : DV} {v : Value} {f : Nat} (h : fieldD P s x f = some d) (hx : VR ρ x v) (w : World) : ∃ u, (Instr.field s v f).run P w = .ok u w ∧ VR ρ d u := by
  unfold fieldD at h
  split at h
  · rename_i fs cs hu
    split at h
    · rename_i fl hf
      simp only [VR] at hx
      obtain ⟨h1, vs, rfl, hv⟩ := hx
      obtain ⟨u, hr, hu'⟩ := part_sound h hv h1 w
      exact ⟨u, by simp [Instr.field, r_underlying hu, hf, asAgg, hr], hu'⟩
    · cases h
  · cases h

theorem indexAddr_sound {t : TypeId} {x ix d : DV} {v u : Value} (h : indexAddrD P t x ix = some d) (hx : VR ρ x v) (hi : VR ρ ix u) (w : World) : ∃ r, (Instr.indexAt t v u).run P w = .ok r w ∧ VR ρ d r := by
  unfold indexAddrD at h
  split at h
  · rename_i e l i z len _ _ k n hu
    split at h
    · rename_i hc
      obtain ⟨hs, h0, h1⟩ := hc
      cases h
      simp only [VR] at hx hi
      subst hi
      obtain ⟨pl, a, c', hp, hz, rfl, hnc, hcc, hex, htot, ha⟩ := hx
      have ha' : a = pl.addr i 0 := by
        rcases ha with ha | ha
        · exfalso; omega
        · exact ha
      subst ha'
      refine ⟨.pointer (some (pl.addr (i + n.toNat) 0)), ?_, by simp only [VR]; exact ⟨pl, hp, rfl⟩⟩
      have := addr_add pl i n.toNat z hz.symm
      simp [Instr.indexAt, asIntOf, r_underlying hu, h0, h1, r_sizeOf hs, this]
    · cases h
  · rename_i len e l i o k n hu
    split at h
    · rename_i s hs
      split at h
      · rename_i hc
        cases h
        simp only [VR] at hx hi
        subst hi
        obtain ⟨pl, hp, rfl⟩ := hx
        refine ⟨.pointer (some (pl.addr i (o + n.toNat * s))), ?_, by simp only [VR]; exact ⟨pl, hp, rfl⟩⟩
        have : (pl.addr i o).add (n.toNat * s) = pl.addr i (o + n.toNat * s) := by
          unfold Addr.add Pl.addr
          split
          · rename_i e; rw [e]; rfl
          · simp only [Addr.mk.injEq, and_true, true_and]; omega
        simp [Instr.indexAt, asIntOf, r_underlying hu, hc, r_sizeOf hs, this, Instr.sureAddr]
      · cases h
    · cases h
  · cases h

theorem index_sound {t : TypeId} {x ix d : DV} {v u : Value} (h : indexD P t x ix = some d) (hx : VR ρ x v) (hi : VR ρ ix u) (w : World) : ∃ r, (Instr.index t v u).run P w = .ok r w ∧ VR ρ d r := by
  unfold indexD at h
  split at h
  · rename_i len e cs k n hu
    split at h
    · rename_i s hs
      split at h
      · rename_i hc
        simp only [VR] at hx hi
        subst hi
        obtain ⟨h1, vs, rfl, hv⟩ := hx
        obtain ⟨r, hr, hr'⟩ := part_sound h hv h1 w
        exact ⟨r, by simp [Instr.index, asIntOf, r_underlying hu, hc, r_sizeOf hs, hr], hr'⟩
      · cases h
    · cases h
  · rename_i s k n hu
    split at h
    · rename_i h0
      cases hb : s[n.toNat]? with
      | none => rw [hb] at h; cases h
      | some b =>
        rw [hb] at h
        cases h
        simp only [VR] at hx hi
        subst hi; subst hx
        refine ⟨_, ?_, VR_int _ _⟩
        have hb' : (⟨s.toArray⟩ : ByteArray)[n.toNat]? = some b := by
          have : n.toNat < s.length := (List.getElem?_eq_some_iff.mp hb).1
          have h2 : n.toNat < (⟨s.toArray⟩ : ByteArray).size := by rw [size_mk]; exact this
          rw [getElem?_pos (⟨s.toArray⟩ : ByteArray) n.toNat h2]
          have : (⟨s.toArray⟩ : ByteArray)[n.toNat] = s[n.toNat] := by
            show s.toArray[n.toNat] = _
            simp
          rw [this, ← hb, List.getElem?_eq_getElem]
        simp [Instr.index, asIntOf, r_underlying hu, h0, hb']
    · cases h
  · cases h

theorem conv_sound {s t : TypeId} {x d : DV} {v : Value} (h : convPure P s t x = some d) (hx : VR ρ x v) (w : World) : ∃ r, (convert s t v).run P w = .ok r w ∧ VR ρ d r := by
  unfold convPure at h
  split at h
  · rename_i ds k j n hs ht
    cases h
    simp only [VR] at hx
    subst hx
    exact ⟨_, by simp [convert, r_underlying hs, r_underlying ht, Conv.intToInt], VR_int _ _⟩
  · rename_i ds k n hs ht
    cases h
    simp only [VR] at hx
    subst hx
    refine ⟨.string (Utf8.encode n), by simp [convert, r_underlying hs, r_underlying ht, Conv.intToString], ?_⟩
    simp only [VR]
  · rename_i ds a hs ht
    cases h
    simp only [VR] at hx
    subst hx
    exact ⟨_, by simp [convert, r_underlying hs, r_underlying ht], VR_str _⟩
  · cases h

theorem assert_sound {x d : DV} {v : Value} {xt at_ : TypeId} {ok : Bool} (h : assertD P x xt at_ ok = some d) (hx : VR ρ x v) (w : World) : ∃ r, (Instr.typeAssert v xt at_ ok).run P w = .ok r w ∧ VR ρ d r := by
  have tup : ∀ {a b : DV} {x y : Value}, VR ρ a x → VR ρ b y → VR ρ (.tuple [a, b]) (.tuple #[x, y]) := by
    intro a b x y h1 h2
    simp only [VR]
    exact ⟨_, rfl, .cons h1 (.one h2)⟩
  unfold assertD at h
  split at h
  · cases h
  · rename_i td hni hu
    simp only [VR] at hx
    subst hx
    split at h
    · rename_i hok
      cases hz : zeroT P at_ with
      | none => rw [hz] at h; cases h
      | some z =>
        rw [hz] at h; cases h
        obtain ⟨zv, hzr, hzv⟩ := r_zero hz ρ w
        refine ⟨.tuple #[zv, .bool false], ?_, tup hzv (VR_bool _)⟩
        cases td <;> simp_all [Instr.typeAssert, r_underlying hu]
    · cases h
  · rename_i td t v' hni hu
    simp only [VR] at hx
    obtain ⟨y, rfl, hy⟩ := hx
    split at h
    · rename_i e
      subst e
      cases h
      cases ok
      · refine ⟨y, ?_, hy⟩
        cases td <;> simp_all [Instr.typeAssert, r_underlying hu]
      · refine ⟨.tuple #[y, .bool true], ?_, tup hy (VR_bool _)⟩
        cases td <;> simp_all [Instr.typeAssert, r_underlying hu]
    · rename_i e
      split at h
      · rename_i hok
        cases hz : zeroT P at_ with
        | none => rw [hz] at h; cases h
        | some z =>
          rw [hz] at h; cases h
          obtain ⟨zv, hzr, hzv⟩ := r_zero hz ρ w
          refine ⟨.tuple #[zv, .bool false], ?_, tup hzv (VR_bool _)⟩
          cases td <;> simp_all [Instr.typeAssert, r_underlying hu]
      · cases h
  · cases h

theorem len_sound {t : TypeId} {x d : DV} {v : Value} (h : lenD P t x = some d) (hx : VR ρ x v) (ty : TypeId) (w : World) : ∃ r, (Builtin.len_ #[t] ty #[v]).run P w = .ok r w ∧ VR ρ d r := by
  unfold lenD at h
  split at h
  · rename_i s hu
    cases h
    simp only [VR] at hx
    subst hx
    exact ⟨_, by simp [Builtin.len_, r_underlying hu, goInt, size_mk], VR_int _ _⟩
  · rename_i n _ hu
    cases h
    exact ⟨_, by simp [Builtin.len_, r_underlying hu, goInt], VR_int _ _⟩
  · rename_i p n c ex hu
    cases h
    cases p with
    | none => simp only [VR] at hx; obtain ⟨rfl, rfl, rfl⟩ := hx; exact ⟨_, by simp [Builtin.len_, r_underlying ‹_›, goInt], VR_int _ _⟩
    | some p =>
      obtain ⟨l, i, z⟩ := p
      simp only [VR] at hx
      obtain ⟨pl, a, c', hp, hz, rfl, _⟩ := hx
      exact ⟨_, by simp [Builtin.len_, r_underlying ‹_›, goInt], VR_int _ _⟩
  · cases h

theorem fold_sound {f : DV → DV → Option DV} {g : Value → Value → Sem Value} (hf : ∀ {x y d : DV} {u v : Value} (w : World), f x y = some d → VR ρ x u → VR ρ y v → ∃ r, (g u v).run P w = .ok r w ∧ VR ρ d r) (w : World) :
    ∀ {ys : List DV} {x d : DV} {u : Value} {vs : List Value}, foldD f x ys = some d → VR ρ x u → VRs ρ ys vs → ∃ r, (vs.foldlM g u).run P w = .ok r w ∧ VR ρ d r
  | [], x, d, u, vs, h, hx, hv => by
    simp only [foldD] at h; cases h
    simp only [VRs] at hv; subst hv
    exact ⟨u, by simp, hx⟩
  | y :: ys, x, d, u, vs, h, hx, hv => by
    simp only [foldD] at h
    simp only [VRs] at hv
    obtain ⟨v, r, rfl, hy, hr⟩ := hv
    split at h
    · rename_i z hz
      obtain ⟨q, hq, hzq⟩ := hf w hz hx hy
      obtain ⟨q', hq', hd⟩ := fold_sound hf w h hzq hr
      exact ⟨q', by simp only [List.foldlM_cons, Sem.run_bind, hq, Result.andThen_ok, hq'], hd⟩
    · cases h

theorem max2_sound {x y d : DV} {u v : Value} (w : World) (h : max2D x y = some d) (hx : VR ρ x u) (hy : VR ρ y v) : ∃ r, (Builtin.max2 u v).run P w = .ok r w ∧ VR ρ d r := by
  unfold max2D at h
  split at h
  · cases h; simp only [VR] at hx hy; subst hx; subst hy; exact ⟨_, by simp [Builtin.max2], VR_int _ _⟩
  · cases h
theorem min2_sound {x y d : DV} {u v : Value} (w : World) (h : min2D x y = some d) (hx : VR ρ x u) (hy : VR ρ y v) : ∃ r, (Builtin.min2 u v).run P w = .ok r w ∧ VR ρ d r := by
  unfold min2D at h
  split at h
  · cases h; simp only [VR] at hx hy; subst hx; subst hy; exact ⟨_, by simp [Builtin.min2], VR_int _ _⟩
  · cases h

theorem pure_sound {o : Oper} {ev : Ev} {d : DV} (h : pureD P o ev = some d) {e : Operand → Value} (he : EvR ρ ev e) (w : World) :
    ∃ v, (execOp e o).run P w = .ok (.value v) w ∧ VR ρ d v := by
  obtain ⟨dst, op, type, pos, after, guard⟩ := o
  unfold pureD at h
  simp only at h
  split at h
  · exact ⟨_, rfl, he _ _ h⟩
  · exact ⟨_, rfl, he _ _ h⟩
  · rename_i c a b
    split at h
    · rename_i t hc
      have hc' := he _ _ hc
      simp only [VR] at hc'
      cases t
      · exact ⟨e b, by simp [execOp, hc', asBool], he _ _ h⟩
      · exact ⟨e a, by simp [execOp, hc', asBool], he _ _ h⟩
    · cases h
  · rename_i t parts
    split at h
    · rename_i ps hps
      have hv := evParts_sound he hps
      obtain ⟨v, hr, hd⟩ := build_sound (vs := parts.map fun (i, x) => (i, e x)) h (by simpa using hv) w
      exact ⟨v, by simp only [execOp, Sem.run_bind, hr, Result.andThen_ok, Sem.run_pure], hd⟩
    · cases h
  · rename_i x
    split at h
    · rename_i p hx
      cases h
      have hx' := he _ _ hx
      have hx2 := hx'
      obtain ⟨l, i, o⟩ := p
      simp only [VR] at hx2
      obtain ⟨pl, hp, hv⟩ := hx2
      exact ⟨e x, by simp [execOp, hv], hx'⟩
    · rename_i t v hx
      cases h
      have hx' := he _ _ hx
      have hx2 := hx'
      simp only [VR] at hx2
      obtain ⟨y, hv, _⟩ := hx2
      exact ⟨e x, by simp [execOp, hv], hx'⟩
    · rename_i f a c hx
      cases h
      have hx' := he _ _ hx
      have hx2 := hx'
      simp only [VR] at hx2
      obtain ⟨_, _, hv, _⟩ := hx2
      exact ⟨e x, by simp [execOp, hv], hx'⟩
    · cases h
  · rename_i op t x y yt
    split at h
    · rename_i a b ha hb
      obtain ⟨v, hr, hd⟩ := bin_sound h (he _ _ ha) (he _ _ hb) x y w
      exact ⟨v, by simp only [execOp]; rw [Sem.run_bind, hr]; rfl, hd⟩
    · cases h
  · rename_i op t x
    split at h
    · rename_i a ha
      obtain ⟨v, hr, hd⟩ := un_sound (P := P) h (he _ _ ha) w
      exact ⟨v, by simp only [execOp, Sem.run_bind, hr, Result.andThen_ok, Sem.run_pure], hd⟩
    · cases h
  · rename_i s t x
    split at h
    · rename_i a ha
      obtain ⟨v, hr, hd⟩ := conv_sound h (he _ _ ha) w
      exact ⟨v, by simp only [execOp, Sem.run_bind, hr, Result.andThen_ok, Sem.run_pure], hd⟩
    · cases h
  · rename_i t x
    split at h
    · cases h
    · rename_i td a hni hu ha
      cases h
      refine ⟨.iface t (e x), ?_, by simp only [VR]; exact ⟨_, rfl, he _ _ ha⟩⟩
      cases td <;> simp_all [execOp, Instr.makeInterface, r_underlying hu]
    · cases h
  · rename_i fn first captured
    split at h
    · rename_i a c ha hc
      cases h
      refine ⟨.func fn (first.map e) (captured.map e), by simp [execOp, Instr.makeFunc], ?_⟩
      simp only [VR]
      exact ⟨_, _, rfl, by simpa using evs_sound he ha, by simpa using evs_sound he hc⟩
    · cases h
  · rename_i t x lo hi mx
    split at h
    · rename_i a l hh m ha hl hhi hm
      obtain ⟨v, hr, hd⟩ := slice_sound h (he _ _ ha) (evOpt_sound he hl) (evOpt_sound he hhi) (evOpt_sound he hm) w
      exact ⟨v, by simp only [execOp, Sem.run_bind, hr, Result.andThen_ok, Sem.run_pure], hd⟩
    · cases h
  · rename_i s x f
    split at h
    · rename_i a ha
      obtain ⟨v, hr, hd⟩ := fieldAddr_sound h (he _ _ ha) w
      exact ⟨v, by simp only [execOp, Sem.run_bind, hr, Result.andThen_ok, Sem.run_pure], hd⟩
    · cases h
  · rename_i s x f
    split at h
    · rename_i a ha
      obtain ⟨v, hr, hd⟩ := field_sound h (he _ _ ha) w
      exact ⟨v, by simp only [execOp, Sem.run_bind, hr, Result.andThen_ok, Sem.run_pure], hd⟩
    · cases h
  · rename_i t x ix
    split at h
    · rename_i a i ha hi
      obtain ⟨v, hr, hd⟩ := indexAddr_sound h (he _ _ ha) (he _ _ hi) w
      exact ⟨v, by simp only [execOp, Sem.run_bind, hr, Result.andThen_ok, Sem.run_pure], hd⟩
    · cases h
  · rename_i t x ix
    split at h
    · rename_i a i ha hi
      obtain ⟨v, hr, hd⟩ := index_sound h (he _ _ ha) (he _ _ hi) w
      exact ⟨v, by simp only [execOp, Sem.run_bind, hr, Result.andThen_ok, Sem.run_pure], hd⟩
    · cases h
  · rename_i x xt at_ ok
    split at h
    · rename_i a ha
      obtain ⟨v, hr, hd⟩ := assert_sound h (he _ _ ha) w
      exact ⟨v, by simp only [execOp, Sem.run_bind, hr, Result.andThen_ok, Sem.run_pure], hd⟩
    · cases h
  · rename_i t i
    split at h
    · rename_i vs hvs
      have hv := he _ _ hvs
      simp only [VR] at hv
      obtain ⟨us, hu, hr⟩ := hv
      obtain ⟨y, hy, hd⟩ := VRs.get i hr h
      rw [Array.getElem?_toList] at hy
      exact ⟨y, by simp [execOp, Instr.extract, hu, hy], hd⟩
    · cases h
  · rename_i args argTypes
    obtain ⟨args⟩ := args
    obtain ⟨argTypes⟩ := argTypes
    simp only at h
    split at h
    · rename_i x t
      split at h
      · rename_i a ha
        obtain ⟨v, hr, hd⟩ := len_sound h (he _ _ ha) type w
        refine ⟨v, ?_, hd⟩
        simp [execOp, resolve, invoke, builtin, hr]
      · cases h
    · cases h
  · rename_i args argTypes
    obtain ⟨args⟩ := args
    simp only at h
    split at h
    · rename_i x r hx
      have hv := evs_sound he hx
      simp only [VRs] at hv
      obtain ⟨u, us, hu, h1, h2⟩ := hv
      obtain ⟨q, hq, hd⟩ := fold_sound (P := P) (g := Builtin.max2) (fun w => max2_sound w) w h h1 h2
      refine ⟨q, ?_, hd⟩
      simp only [execOp, resolve, Sem.run_bind, Sem.run_pure, Result.andThen_ok, invoke, builtin, Builtin.max_]
      simp [hu, hq]
    · cases h
  · rename_i args argTypes
    obtain ⟨args⟩ := args
    simp only at h
    split at h
    · rename_i x r hx
      have hv := evs_sound he hx
      simp only [VRs] at hv
      obtain ⟨u, us, hu, h1, h2⟩ := hv
      obtain ⟨q, hq, hd⟩ := fold_sound (P := P) (g := Builtin.min2) (fun w => min2_sound w) w h h1 h2
      refine ⟨q, ?_, hd⟩
      simp only [execOp, resolve, Sem.run_bind, Sem.run_pure, Result.andThen_ok, invoke, builtin, Builtin.min_]
      simp [hu, hq]
    · cases h
  · cases h
end
end Go.Det
