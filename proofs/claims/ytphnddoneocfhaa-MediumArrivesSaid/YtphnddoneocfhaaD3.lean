/- The operations that neither read nor write: the machine does what the deterministic reading tells. -/
import Derived.Test.YtphnddoneocfhaaD2
import Derived.Laws.Sem
import Derived.Laws.Cells
import Derived.Laws.StructEq
namespace Go.Det
set_option linter.unusedVariables false
set_option linter.unusedSimpArgs false

section
variable {P : Program} {ρ : Rho}

theorem r_underlying {t : TypeId} {d : TypeDesc} (h : P.underlying t = some d) (w : World) : (underlying t).run P w = .ok d w := by
  simp [underlying, h]
theorem r_info {t : TypeId} {i : TypeInfo} (h : P.info? t = some i) (w : World) : (typeInfo t).run P w = .ok i w := by
  simp [typeInfo, h]
theorem sizeT_info {t : TypeId} {n : Nat} (h : sizeT P t = some n) : ∃ i, P.info? t = some i ∧ i.size = n := by
  unfold sizeT at h
  cases hi : P.info? t with
  | none => rw [hi] at h; cases h
  | some i => rw [hi] at h; simp at h; exact ⟨i, rfl, h⟩
theorem r_sizeOf {t : TypeId} {n : Nat} (h : sizeT P t = some n) (w : World) : (sizeOf t).run P w = .ok n w := by
  obtain ⟨i, hi, rfl⟩ := sizeT_info h
  simp [sizeOf, r_info hi]
theorem r_isAgg {t : TypeId} {b : Bool} (h : aggT P t = some b) (w : World) : (isAgg t).run P w = .ok b w := by
  unfold aggT at h
  cases hu : P.underlying t with
  | none => rw [hu] at h; cases h
  | some d =>
    rw [hu] at h
    simp only [Option.map_some, Option.some.injEq] at h
    subst h
    simp only [isAgg, Sem.run_bind, r_underlying hu, Result.andThen_ok]
    cases d <;> rfl
theorem zeroT_value {t : TypeId} {z : DV} (h : zeroT P t = some z) : ∃ i v, P.info? t = some i ∧ i.zero = some v ∧ ofValue v = some z := by
  unfold zeroT at h
  cases hi : P.info? t with
  | none => rw [hi] at h; cases h
  | some i =>
    rw [hi] at h
    simp only [Option.bind_some] at h
    cases hz : i.zero with
    | none => rw [hz] at h; cases h
    | some v => rw [hz] at h; exact ⟨i, v, rfl, hz, h⟩
theorem r_zero {t : TypeId} {z : DV} (h : zeroT P t = some z) (ρ : Rho) (w : World) : ∃ v, (zeroValue t).run P w = .ok v w ∧ VR ρ z v := by
  obtain ⟨i, v, hi, hz, hv⟩ := zeroT_value h
  exact ⟨v, by simp [zeroValue, r_info hi, hz], ofValue_sound ρ hv⟩

theorem all_take {cs : List DV} (n : Nat) (h : cs.all DV.one = true) : (cs.take n).all DV.one = true := by
  rw [List.all_eq_true] at h ⊢; exact fun x hx => h x (List.mem_of_mem_take hx)
theorem all_drop {cs : List DV} (n : Nat) (h : cs.all DV.one = true) : (cs.drop n).all DV.one = true := by
  rw [List.all_eq_true] at h ⊢; exact fun x hx => h x (List.mem_of_mem_drop hx)
theorem all_get {cs : List DV} {n : Nat} {x : DV} (h : cs.all DV.one = true) (hx : cs[n]? = some x) : x.one = true := by
  rw [List.all_eq_true] at h; exact h x (List.mem_of_getElem? hx)

theorem part_sound {t : TypeId} {cs : List DV} {off : Nat} {d : DV} (h : partD P t cs off = some d) {vs : Array Value} (hv : VRs ρ cs vs.toList) (h1 : cs.all DV.one = true) (w : World) :
    ∃ v, (part t vs off).run P w = .ok v w ∧ VR ρ d v := by
  unfold partD at h
  split at h
  · rename_i n ha hs
    split at h
    · rename_i hle
      cases h
      refine ⟨.agg (vs.extract off (off + n)), by simp [part, r_isAgg ha, r_sizeOf hs], ?_⟩
      simp only [VR]
      refine ⟨all_take _ (all_drop _ h1), _, rfl, ?_⟩
      have := (hv.drop off).take n
      rw [Array.toList_extract, List.extract_eq_take_drop]
      simpa using this
    · cases h
  · rename_i ha hs
    obtain ⟨y, hy, hr⟩ := VRs.get off hv h
    refine ⟨y, ?_, hr⟩
    rw [Array.getElem?_toList] at hy
    simp [part, r_isAgg ha, hy]
  · cases h

/-! #### build -/
theorem splice_length (cs vs : List DV) (off : Nat) (h : off + vs.length ≤ cs.length) : (splice cs off vs).length = cs.length := by
  simp [splice]; omega

theorem splice_get (cs vs : List DV) (off i : Nat) (h : off + vs.length ≤ cs.length) : (splice cs off vs)[i]? = if off ≤ i ∧ i < off + vs.length then vs[i - off]? else cs[i]? := by
  unfold splice
  have hm : min off cs.length = off := by omega
  rw [List.getElem?_append, List.getElem?_append]
  simp only [List.length_take, List.getElem?_take, List.getElem?_drop, hm]
  by_cases h1 : i < off
  · rw [if_pos h1, if_pos h1, if_neg (by omega)]
  · rw [if_neg h1]
    by_cases h2 : i - off < vs.length
    · rw [if_pos h2, if_pos (by omega)]
    · rw [if_neg h2, if_neg (by omega)]
      congr 1
      omega

theorem fold_set (vs : List Value) : ∀ (off k : Nat) (cells : Array Value), k + off + vs.length ≤ cells.size → ∀ i, ((vs.zipIdx k).foldl (fun cs (p : Value × Nat) => cs.setIfInBounds (off + p.2) p.1) cells).toList[i]? =
    if off + k ≤ i ∧ i < off + k + vs.length then vs[i - (off + k)]? else cells.toList[i]? := by
  induction vs with
  | nil => intro off k cells _ i; simp; intro h1 h2; omega
  | cons v r ih =>
    intro off k cells h i
    simp only [List.zipIdx_cons, List.foldl_cons, List.length_cons] at h ⊢
    rw [ih off (k + 1) _ (by simp; omega) i]
    by_cases h1 : off + (k + 1) ≤ i ∧ i < off + (k + 1) + r.length
    · rw [if_pos h1, if_pos (by omega)]
      have : i - (off + k) = (i - (off + (k + 1))) + 1 := by omega
      rw [this]; rfl
    · rw [if_neg h1]
      rw [Array.getElem?_toList, Array.getElem?_setIfInBounds]
      by_cases h2 : off + k = i
      · subst h2
        rw [if_pos rfl, if_pos (by omega), if_pos (by omega)]
        simp
      · rw [if_neg h2, if_neg (by omega), Array.getElem?_toList]

theorem fold_size (vs : List Value) : ∀ (off k : Nat) (cells : Array Value), ((vs.zipIdx k).foldl (fun cs (p : Value × Nat) => cs.setIfInBounds (off + p.2) p.1) cells).size = cells.size := by
  induction vs with
  | nil => intro off k cells; rfl
  | cons v r ih => intro off k cells; simp only [List.zipIdx_cons, List.foldl_cons]; rw [ih]; simp

theorem splice_sound {cs ds : List DV} {cells vs : Array Value} (hc : VRs ρ cs cells.toList) (hd : VRs ρ ds vs.toList) (off : Nat) (h : off + ds.length ≤ cs.length) :
    VRs ρ (splice cs off ds) (vs.zipIdx.foldl (fun cs (p : Value × Nat) => cs.setIfInBounds (off + p.2) p.1) cells).toList := by
  have hlc := VRs.length hc
  have hld := VRs.length hd
  rw [← Array.foldl_toList, Array.toList_zipIdx]
  refine VRs.of_get ?_ fun i x y hx hy => ?_
  · rw [splice_length _ _ _ h, ← hlc]
    simp only [Array.length_toList]
    exact fold_size _ _ _ _
  · rw [splice_get _ _ _ _ h] at hx
    rw [fold_set _ _ _ _ (by simp at hlc hld ⊢; omega)] at hy
    simp only [Nat.add_zero, hld] at hy
    split at hx
    · rename_i h1
      rw [if_pos h1] at hy
      obtain ⟨y', hy', hr⟩ := VRs.get _ hd hx
      rw [hy'] at hy; cases hy; exact hr
    · rename_i h1
      rw [if_neg h1] at hy
      obtain ⟨y', hy', hr⟩ := VRs.get _ hc hx
      rw [hy'] at hy; cases hy; exact hr

theorem splice_all {cs ds : List DV} (off : Nat) (h1 : cs.all DV.one = true) (h2 : ds.all DV.one = true) : (splice cs off ds).all DV.one = true := by
  simp only [splice, List.all_append, Bool.and_eq_true]
  exact ⟨all_take _ h1, h2, all_drop _ h1⟩

def PartsR (ρ : Rho) : List (Nat × DV) → List (Nat × Value) → Prop
  | [], vs => vs = []
  | (i, d) :: ds, vs => ∃ v r, vs = (i, v) :: r ∧ VR ρ d v ∧ PartsR ρ ds r

theorem evParts_sound {ev : Ev} {e : Operand → Value} (he : EvR ρ ev e) : ∀ {ps : List (Nat × Operand)} {ds : List (Nat × DV)}, evParts ev ps = some ds → PartsR ρ ds (ps.map fun (i, x) => (i, e x))
  | [], _, h => by simp only [evParts] at h; cases h; simp [PartsR]
  | (i, x) :: r, _, h => by
    simp only [evParts] at h
    split at h
    · rename_i d ds hd hds
      cases h
      simp only [PartsR, List.map_cons]
      exact ⟨_, _, rfl, he _ _ hd, evParts_sound he hds⟩
    · cases h

theorem fill_sound {pl pl' : Nat → Option (Nat × Nat)} (hp : ∀ i x, pl i = some x → pl' i = some x) : ∀ {ps : List (Nat × DV)} {vs : List (Nat × Value)} {cs cs' : List DV} {cells : Array Value},
    fillD pl cs ps = some cs' → PartsR ρ ps vs → VRs ρ cs cells.toList → cs.all DV.one = true → ∃ cells', Instr.fill pl' cells vs = some cells' ∧ VRs ρ cs' cells'.toList ∧ cs'.all DV.one = true
  | [], _, cs, cs', cells, h, hv, hc, h1 => by
    simp only [PartsR] at hv
    subst hv
    simp only [fillD] at h
    cases h
    exact ⟨cells, rfl, hc, h1⟩
  | (i, d) :: ps, _, cs, cs', cells, h, hv, hc, h1 => by
    simp only [PartsR] at hv
    obtain ⟨v, r, rfl, hd, hr⟩ := hv
    simp only [fillD] at h
    split at h
    · cases h
    · rename_i off size hpl
      split at h
      · rename_i hcond
        obtain ⟨hs, hle, hall⟩ := hcond
        have hdc := VR.cells hd
        have hl1 := VRs.length hdc
        have hl2 := VRs.length hc
        simp only [Array.length_toList] at hl1 hl2
        simp only [Instr.fill, hp _ _ hpl]
        have hn : ¬ ((decide (v.cells.size ≠ size) || decide (off + v.cells.size > cells.size)) = true) := by simp; omega
        rw [if_neg hn]
        exact fill_sound hp h hr (splice_sound hc hdc off (by omega)) (splice_all off h1 hall)
      · cases h

theorem build_places {fs : Array Field} {f : Field → Sem (Nat × Nat)} (w : World) (h : fs.toList.all (fun f => (sizeT P f.type).isSome) = true)
    (hf : f = fun f => do pure (f.offset, ← sizeOf f.type)) :
    ∃ places : Array (Nat × Nat), (fs.mapM f).run P w = .ok places w ∧ ∀ i x, fieldsPlace P fs i = some x → places[i]? = some x := by
  subst hf
  have key : ∀ (l : List Field), l.all (fun f => (sizeT P f.type).isSome) = true →
      (l.mapM (fun f => do pure (f.offset, ← sizeOf f.type) : Field → Sem (Nat × Nat))).run P w = .ok (l.map fun f => (f.offset, (sizeT P f.type).getD 0)) w := by
    intro l
    induction l with
    | nil => intro _; simp
    | cons f l ih =>
      intro hl
      simp only [List.all_cons, Bool.and_eq_true] at hl
      obtain ⟨h1, h2⟩ := hl
      obtain ⟨n, hn⟩ := Option.isSome_iff_exists.mp h1
      simp only [List.mapM_cons, Sem.run_bind, r_sizeOf hn, Result.andThen_ok, Sem.run_pure, ih h2, List.map_cons, hn, Option.getD_some]
  have hk := key fs.toList h
  refine ⟨(fs.toList.map fun f => (f.offset, (sizeT P f.type).getD 0)).toArray, ?_, ?_⟩
  · rw [Array.mapM_eq_mapM_toList]
    rw [Sem.run_map, hk]
    rfl
  · intro i x hx
    unfold fieldsPlace at hx
    split at hx
    · rename_i f hfi
      cases hs : sizeT P f.type with
      | none => rw [hs] at hx; cases hx
      | some s =>
        rw [hs] at hx
        simp only [Option.map_some, Option.some.injEq] at hx
        subst hx
        simp only [List.getElem?_toArray, List.getElem?_map, Array.getElem?_toList, hfi, Option.map_some, hs, Option.getD_some]
    · cases hx

theorem build_sound {t : TypeId} {ps : List (Nat × DV)} {d : DV} (h : buildD P t ps = some d) {vs : Array (Nat × Value)} (hv : PartsR ρ ps vs.toList) (w : World) :
    ∃ v, (Instr.build t vs).run P w = .ok v w ∧ VR ρ d v := by
  unfold buildD at h
  split at h
  · rename_i z fs hz hu
    split at h
    · rename_i hfs
      obtain ⟨zv, hzr, hzv⟩ := r_zero hz ρ w
      simp only [VR] at hzv
      obtain ⟨hz1, zc, rfl, hzc⟩ := hzv
      obtain ⟨places, hpr, hp⟩ := build_places w hfs rfl
      cases hf : fillD (fieldsPlace P fs) z ps with
      | none => rw [hf] at h; cases h
      | some cs' =>
        rw [hf] at h
        simp only [Option.map_some, Option.some.injEq] at h
        subst h
        obtain ⟨cells', hfill, hc', h1'⟩ := fill_sound (pl' := (places[·]?)) hp hf hv hzc hz1
        refine ⟨.agg cells', ?_, ?_⟩
        · simp only [Instr.build, Sem.run_bind, hzr, r_underlying hu, Result.andThen_ok, hpr, Value.cells, hfill, Sem.run_pure]
        · simp only [VR]
          exact ⟨h1', _, rfl, hc'⟩
    · cases h
  · rename_i z n e hz hu
    split at h
    · rename_i s hs
      obtain ⟨zv, hzr, hzv⟩ := r_zero hz ρ w
      simp only [VR] at hzv
      obtain ⟨hz1, zc, rfl, hzc⟩ := hzv
      cases hf : fillD (fun i => some (i * s, s)) z ps with
      | none => rw [hf] at h; cases h
      | some cs' =>
        rw [hf] at h
        simp only [Option.map_some, Option.some.injEq] at h
        subst h
        obtain ⟨cells', hfill, hc', h1'⟩ := fill_sound (pl' := fun i => some (i * s, s)) (fun _ _ h => h) hf hv hzc hz1
        refine ⟨.agg cells', ?_, ?_⟩
        · simp only [Instr.build, Sem.run_bind, hzr, r_underlying hu, Result.andThen_ok, r_sizeOf hs, Value.cells, hfill, Sem.run_pure]
        · simp only [VR]
          exact ⟨h1', _, rfl, hc'⟩
    · cases h
  · cases h

/-! #### whole numbers, strings -/
theorem VR_int (k : IntKind) (n : Int) : VR ρ (.int k n) (.int k n) := by simp [VR]
theorem VR_bool (b : Bool) : VR ρ (.bool b) (.bool b) := by simp [VR]
theorem VR_str (s : List UInt8) : VR ρ (.str s) (.string ⟨s.toArray⟩) := by simp [VR]

theorem arith_sound {op : BinOp} {k : IntKind} {a b : Int} {d : DV} (h : arithD op k a b = some d) (hs : op ≠ .shl) (hr : op ≠ .shr) (x y : Operand) (t : TypeId) (w : World) :
    ∃ v, (do eqGuard op t x y (.int k a) (.int k b); binOp op t (.int k a) (.int k b) : Sem Value).run P w = .ok v w ∧ VR ρ d v := by
  have hg : (eqGuard op t x y (.int k a) (.int k b)).run P w = .ok () w := by
    cases op <;> simp [eqGuard]
  simp only [Sem.run_bind, hg, Result.andThen_ok]
  cases op <;> simp only [arithD] at h
  case shl => exact absurd rfl hs
  case shr => exact absurd rfl hr
  case quo =>
    split at h
    · cases h
    · rename_i hb; cases h; exact ⟨_, by simp [binOp, Op.intDiv, hb], VR_int _ _⟩
  case rem =>
    split at h
    · cases h
    · rename_i hb; cases h; exact ⟨_, by simp [binOp, Op.intDiv, hb], VR_int _ _⟩
  all_goals (cases h; first | exact ⟨_, by simp [binOp, Op.intArith, Op.intBits, Op.intCmp], VR_int _ _⟩ | exact ⟨_, by simp [binOp, Op.intArith, Op.intBits, Op.intCmp], VR_bool _⟩)

theorem shift_sound {op : BinOp} {k j : IntKind} {a b : Int} {d : DV} (h : shiftD op k a b = some d) (x y : Operand) (t : TypeId) (w : World) :
    ∃ v, (do eqGuard op t x y (.int k a) (.int j b); binOp op t (.int k a) (.int j b) : Sem Value).run P w = .ok v w ∧ VR ρ d v := by
  unfold shiftD at h
  split at h
  · cases h
  · rename_i hb
    split at h
    · cases h
      exact ⟨_, by simp only [Sem.run_bind]; simp [eqGuard, binOp, Op.shift, hb], VR_int _ _⟩
    · cases h
      exact ⟨_, by simp only [Sem.run_bind]; simp [eqGuard, binOp, Op.shift, hb], VR_int _ _⟩
    · cases h

theorem toList_loop : ∀ (n i : Nat) (r : List UInt8) (bs : ByteArray), bs.data.size - i = n → ByteArray.toList.loop bs i r = r.reverse ++ bs.data.toList.drop i := by
  intro n
  induction n with
  | zero =>
    intro i r bs h
    unfold ByteArray.toList.loop
    have h1 : ¬ i < bs.size := by show ¬ i < bs.data.size; omega
    rw [if_neg h1]
    have : bs.data.toList.length ≤ i := by rw [Array.length_toList]; omega
    rw [List.drop_eq_nil_of_le this, List.append_nil]
  | succ n ih =>
    intro i r bs h
    unfold ByteArray.toList.loop
    have h1 : i < bs.size := by show i < bs.data.size; omega
    rw [if_pos h1, ih (i + 1) _ bs (by omega)]
    have hi' : i < bs.data.size := by omega
    have hi : i < bs.data.toList.length := by rw [Array.length_toList]; omega
    rw [List.drop_eq_getElem_cons hi, List.reverse_cons, List.append_assoc]
    have he : bs.get! i = bs.data.toList[i] := by
      show bs.data[i]! = _
      rw [getElem!_pos bs.data i hi', Array.getElem_toList]
    rw [he]
    rfl

theorem toList_mk (s : List UInt8) : (⟨s.toArray⟩ : ByteArray).toList = s := by
  unfold ByteArray.toList
  rw [toList_loop _ 0 [] _ rfl]
  simp

theorem append_mk (a b : List UInt8) : (⟨a.toArray⟩ ++ ⟨b.toArray⟩ : ByteArray) = ⟨(a ++ b).toArray⟩ := by
  apply ByteArray.ext
  simp [ByteArray.data_append]

theorem str_sound {op : BinOp} {a b : List UInt8} {d : DV} (h : strOpD op a b = some d) (x y : Operand) (t : TypeId) (w : World) :
    ∃ v, (do eqGuard op t x y (.string ⟨a.toArray⟩) (.string ⟨b.toArray⟩); binOp op t (.string ⟨a.toArray⟩) (.string ⟨b.toArray⟩) : Sem Value).run P w = .ok v w ∧ VR ρ d v := by
  have hg : (eqGuard op t x y (.string ⟨a.toArray⟩) (.string ⟨b.toArray⟩)).run P w = .ok () w := by
    cases op <;> simp [eqGuard]
  simp only [Sem.run_bind, hg, Result.andThen_ok]
  cases op <;> simp only [strOpD] at h
  case add =>
    split at h
    · cases h
      rename_i hb
      refine ⟨.string ⟨(a ++ b).toArray⟩, ?_, by simp [VR]⟩
      have hn : ¬ (((ByteArray.size ⟨a.toArray⟩ + ByteArray.size ⟨b.toArray⟩ : Nat) : Int) > IntKind.i64.max) := by
        simp only [ByteArray.size, List.size_toArray, IntKind.max, IntKind.signed, IntKind.bits]
        simp
        omega
      simp only [binOp, Op.stringOp, Sem.run_ite, if_neg hn, Sem.run_pure, append_mk]
    · cases h
  all_goals first | (cases h; done) | (cases h; exact ⟨_, by simp [binOp, Op.stringOp, toList_mk], VR_bool _⟩)


/-! #### '==' -/
theorem mk_inj {a b : List UInt8} : ((⟨a.toArray⟩ : ByteArray) == ⟨b.toArray⟩) = (a == b) := by
  rw [beq_toListBytes, toList_mk, toList_mk]

theorem eqT_sound : ∀ (d D : Nat) (t : TypeId) (x y : DV) (vx vy : Value) (b : Bool) (w : World), eqT P d t x y = some b → d ≤ D → VR ρ x vx → VR ρ y vy →
    (Op.equalIn D t vx vy).run P w = .ok b w
  | 0, _, _, _, _, _, _, _, _, h, _, _, _ => by simp [eqT] at h
  | d + 1, 0, _, _, _, _, _, _, _, _, hd, _, _ => by omega
  | d + 1, D + 1, t, x, y, vx, vy, b, w, h, hd, hx, hy => by
    simp only [eqT] at h
    split at h
    · rename_i hu; cases h; simp only [VR] at hx hy; subst hx; subst hy
      simp [Op.equalIn, r_underlying hu]
    · rename_i hu
      split at h
      · rename_i e; cases h; subst e; simp only [VR] at hx hy; subst hx; subst hy
        simp [Op.equalIn, r_underlying hu]
      · cases h
    · rename_i hu; cases h; simp only [VR] at hx hy; subst hx; subst hy
      simp [Op.equalIn, r_underlying hu, mk_inj]
    · rename_i fs xs ys hu
      split at h
      · cases h
      · rename_i hc
        simp only [not_or, Bool.not_eq_true, Bool.not_eq_false] at hc
        obtain ⟨hst, h1, h2⟩ := hc
        simp only [VR] at hx hy
        obtain ⟨_, cx, rfl, hx⟩ := hx
        obtain ⟨_, cy, rfl, hy⟩ := hy
        have hf : P.fieldsOf t = fs := by simp [Program.fieldsOf, hu]
        rw [run_equalIn_struct w D t cx cy (by rw [hf]; exact hu) hst, hf]
        clear hu hf hst
        generalize fs.toList = l at h
        induction l generalizing b w with
        | nil => simp only [eqFs] at h; cases h; simp [Op.eqFields]
        | cons f l ih =>
          simp only [eqFs] at h
          split at h
          · rename_i hn
            rw [Op.eqFields, if_neg (by simpa using hn)]
            exact ih b w h
          · rename_i hn
            split at h
            · rename_i a b' ha hb
              obtain ⟨va, hra, hva⟩ := part_sound ha hx h1 w
              obtain ⟨vb, hrb, hvb⟩ := part_sound hb hy h2 w
              rw [Op.eqFields, if_pos hn]
              split at h
              · rename_i he
                have := eqT_sound d D f.type a b' va vb true w he (by omega) hva hvb
                simp only [Sem.run_bind, hra, hrb, this, Result.andThen_ok]
                simpa using ih b w h
              · rename_i he
                cases h
                have := eqT_sound d D f.type a b' va vb false w he (by omega) hva hvb
                simp only [Sem.run_bind, hra, hrb, this, Result.andThen_ok]
                simp
              · cases h
            · cases h
    · rename_i hu; cases h
      simp only [VR] at hx
      subst hx
      rename_i p
      cases p with
      | none => simp only [VR] at hy; subst hy; simp [Op.equalIn, r_underlying hu]
      | some p => obtain ⟨l, i, o⟩ := p; simp only [VR] at hy; obtain ⟨pl, _, rfl⟩ := hy; simp [Op.equalIn, r_underlying hu]
    · rename_i p hne hu; cases h
      simp only [VR] at hy
      subst hy
      cases p with
      | none => exact (hne rfl).elim
      | some p => obtain ⟨l, i, o⟩ := p; simp only [VR] at hx; obtain ⟨pl, _, rfl⟩ := hx; simp [Op.equalIn, r_underlying hu]
    · rename_i p _ _ _ hu; cases h
      simp only [VR] at hx
      obtain ⟨_, _, rfl⟩ := hx
      cases p with
      | none => simp only [VR] at hy; obtain ⟨_, _, rfl⟩ := hy; simp [Op.equalIn, r_underlying hu]
      | some p => obtain ⟨l, i, z⟩ := p; simp only [VR] at hy; obtain ⟨pl, a, c, _, _, rfl, _⟩ := hy; simp [Op.equalIn, r_underlying hu]
    · rename_i p _ _ _ _ _ _ hne hu; cases h
      simp only [VR] at hy
      obtain ⟨_, _, rfl⟩ := hy
      cases p with
      | none => exact (hne rfl).elim
      | some p => obtain ⟨l, i, z⟩ := p; simp only [VR] at hx; obtain ⟨pl, a, c, _, _, rfl, _⟩ := hx; simp [Op.equalIn, r_underlying hu]
    · rename_i p hu; cases h
      simp only [VR] at hx
      subst hx
      cases p with
      | none => simp only [VR] at hy; subst hy; simp [Op.equalIn, r_underlying hu]
      | some p => simp only [VR] at hy; obtain ⟨pl, _, rfl⟩ := hy; simp [Op.equalIn, r_underlying hu]
    · rename_i p hne hu; cases h
      simp only [VR] at hy
      subst hy
      cases p with
      | none => exact (hne rfl).elim
      | some p => simp only [VR] at hx; obtain ⟨pl, _, rfl⟩ := hx; simp [Op.equalIn, r_underlying hu]
    · rename_i hu; cases h; simp only [VR] at hx hy; subst hx; subst hy; simp [Op.equalIn, r_underlying hu]
    · rename_i hu; cases h; simp only [VR] at hx hy; subst hx; obtain ⟨_, _, rfl, _⟩ := hy; simp [Op.equalIn, r_underlying hu]
    · rename_i hu; cases h; simp only [VR] at hx hy; subst hy; obtain ⟨_, _, rfl, _⟩ := hx; simp [Op.equalIn, r_underlying hu]
    · rename_i hu; cases h; simp only [VR] at hx hy; subst hx; obtain ⟨_, rfl, _⟩ := hy; simp [Op.equalIn, r_underlying hu]
    · rename_i hu; cases h; simp only [VR] at hx hy; subst hy; obtain ⟨_, rfl, _⟩ := hx; simp [Op.equalIn, r_underlying hu]
    · cases h

theorem eql_of {op : BinOp} {t : TypeId} {vx vy : Value} {b : Bool} {w : World} (he : (Op.equalIn 10000 t vx vy).run P w = .ok b w)
    (hi : ∀ k a j c, ¬ (vx = .int k a ∧ vy = .int j c)) (hs : ∀ a c, ¬ (vx = .string a ∧ vy = .string c)) (hf : ∀ k a j c, ¬ (vx = .float k a ∧ vy = .float j c)) (hc : ∀ k a a' j c c', ¬ (vx = .complex k a a' ∧ vy = .complex j c c')) :
    (op = .eql → (binOp op t vx vy).run P w = .ok (.bool b) w) ∧ (op = .neq → (binOp op t vx vy).run P w = .ok (.bool (!b)) w) := by
  constructor
  · rintro rfl
    unfold binOp
    split <;> first
      | (exfalso; first | exact hi _ _ _ _ ⟨rfl, rfl⟩ | exact hs _ _ ⟨rfl, rfl⟩ | exact hf _ _ _ _ ⟨rfl, rfl⟩ | exact hc _ _ _ _ _ _ ⟨rfl, rfl⟩)
      | (simp only [Op.equal, Op.maxDepth, Sem.run_bind, he, Result.andThen_ok, Sem.run_pure]; done)
      | simp_all
  · rintro rfl
    unfold binOp
    split <;> first
      | (exfalso; first | exact hi _ _ _ _ ⟨rfl, rfl⟩ | exact hs _ _ ⟨rfl, rfl⟩ | exact hf _ _ _ _ ⟨rfl, rfl⟩ | exact hc _ _ _ _ _ _ ⟨rfl, rfl⟩)
      | (simp only [Op.equal, Op.maxDepth, Sem.run_bind, he, Result.andThen_ok, Sem.run_pure]; done)
      | simp_all

theorem guard_of {op : BinOp} {t : TypeId} {x y : Operand} {vx vy : Value} {w : World} (h1 : ¬ (vx = .nilIface ∧ vy = .nilIface)) (h2 : ∀ a b, vx = .agg a → vy = .agg b → P.eqGuardType P.depth t = false) :
    (eqGuard op t x y vx vy).run P w = .ok () w := by
  have key : ∀ o : BinOp, o = .eql ∨ o = .neq → (eqGuard o t x y vx vy).run P w = .ok () w := by
    intro o ho
    cases vx with
    | nilIface => cases vy with
      | nilIface => exact absurd ⟨rfl, rfl⟩ h1
      | _ => rcases ho with rfl | rfl <;> rfl
    | agg a => cases vy with
      | agg b => rcases ho with rfl | rfl <;> simp [eqGuard, h2 _ _ rfl rfl]
      | _ => rcases ho with rfl | rfl <;> rfl
    | _ => rcases ho with rfl | rfl <;> rfl
  cases op
  case eql => exact key _ (.inl rfl)
  case neq => exact key _ (.inr rfl)
  all_goals rfl

theorem VR_not_num {d : DV} {v : Value} (h : VR ρ d v) : (∀ k a, v = .int k a → ∃ k a, d = .int k a) ∧ (∀ a, v = .string a → ∃ a, d = .str a) ∧ (∀ k a, v ≠ .float k a) ∧ (∀ k a b, v ≠ .complex k a b) ∧ (v = .nilIface → d = .nilIface) ∧ (∀ a, v = .agg a → ∃ a, d = .agg a) := by
  cases d <;> (try simp only [VR] at h)
  case ptr p => cases p with
    | none => simp only [VR] at h; subst h; simp
    | some p => obtain ⟨l, i, o⟩ := p; simp only [VR] at h; obtain ⟨pl, hp, rfl⟩ := h; simp
  case sl p n c ex => cases p with
    | none => simp only [VR] at h; obtain ⟨_, _, rfl⟩ := h; simp
    | some p => obtain ⟨l, i, z⟩ := p; simp only [VR] at h; obtain ⟨pl, a, c', hp, hz, rfl, _⟩ := h; simp
  case map r => cases r with
    | none => simp only [VR] at h; subst h; simp
    | some r => simp only [VR] at h; obtain ⟨pl, hp, rfl⟩ := h; simp
  case func => obtain ⟨_, _, rfl, _⟩ := h; simp
  case iface => obtain ⟨_, rfl, _⟩ := h; simp
  case agg => obtain ⟨_, _, rfl, _⟩ := h; simp
  case tuple => obtain ⟨_, rfl, _⟩ := h; simp
  all_goals (subst h; simp)

theorem eqT_not_nilIface {d : Nat} {t : TypeId} {b : Bool} : eqT P d t .nilIface .nilIface ≠ some b := by
  cases d with
  | zero => simp [eqT]
  | succ d => simp only [eqT]; split <;> simp_all

theorem eqD_sound {t : TypeId} {x y : DV} {vx vy : Value} {b : Bool} (h : eqD P t x y = some b) (hx : VR ρ x vx) (hy : VR ρ y vy) (ox oy : Operand) (op : BinOp) (w : World) :
    (eqGuard op t ox oy vx vy).run P w = .ok () w ∧ (Op.equalIn 10000 t vx vy).run P w = .ok b w := by
  obtain ⟨_, _, _, _, nx, ax⟩ := VR_not_num hx
  obtain ⟨_, _, _, _, ny, ay⟩ := VR_not_num hy
  have h20 : eqT P 20 t x y = some b ∧ ((∃ a c, x = .agg a ∧ y = .agg c) → P.eqGuardType P.depth t = false) := by
    unfold eqD at h
    split at h
    · split at h
      · cases h
      · rename_i hg; exact ⟨h, fun _ => by simpa using hg⟩
    · rename_i hne
      exact ⟨h, fun ⟨a, c, ha, hc⟩ => (hne a c ha hc).elim⟩
  refine ⟨guard_of ?_ ?_, eqT_sound 20 10000 t x y vx vy b w h20.1 (by omega) hx hy⟩
  · rintro ⟨h1, h2⟩
    have e1 := nx h1
    have e2 := ny h2
    subst e1; subst e2
    exact eqT_not_nilIface h20.1
  · intro a c ha hc
    obtain ⟨a', ha'⟩ := ax _ ha
    obtain ⟨c', hc'⟩ := ay _ hc
    exact h20.2 ⟨a', c', ha', hc'⟩

theorem bin_sound {op : BinOp} {t : TypeId} {x y d : DV} {vx vy : Value} (h : binD P op t x y = some d) (hx : VR ρ x vx) (hy : VR ρ y vy) (ox oy : Operand) (w : World) :
    ∃ v, (do eqGuard op t ox oy vx vy; binOp op t vx vy : Sem Value).run P w = .ok v w ∧ VR ρ d v := by
  unfold binD at h
  split at h
  · rename_i j a k b
    simp only [VR] at hx hy
    subst hx; subst hy
    split at h
    · exact shift_sound h _ _ _ _
    · exact shift_sound h _ _ _ _
    · rename_i hs hr
      split at h
      · rename_i e; subst e; exact arith_sound h (fun e => hs e) (fun e => hr e) _ _ _ _
      · cases h
  · simp only [VR] at hx hy
    subst hx; subst hy
    exact str_sound h _ _ _ _
  · rename_i hi hs
    have hi' : ∀ k a j c, ¬ (vx = .int k a ∧ vy = .int j c) := by
      rintro k a j c ⟨h1, h2⟩
      obtain ⟨k', a', e1⟩ := (VR_not_num hx).1 _ _ h1
      obtain ⟨j', c', e2⟩ := (VR_not_num hy).1 _ _ h2
      exact hi _ _ _ _ e1 e2
    have hs' : ∀ a c, ¬ (vx = .string a ∧ vy = .string c) := by
      rintro a c ⟨h1, h2⟩
      obtain ⟨a', e1⟩ := (VR_not_num hx).2.1 _ h1
      obtain ⟨c', e2⟩ := (VR_not_num hy).2.1 _ h2
      exact hs _ _ e1 e2
    have hf' : ∀ k a j c, ¬ (vx = .float k a ∧ vy = .float j c) := fun k a j c ⟨h1, _⟩ => (VR_not_num hx).2.2.1 _ _ h1
    have hc' : ∀ k a a' j c c', ¬ (vx = .complex k a a' ∧ vy = .complex j c c') := fun k a a' j c c' ⟨h1, _⟩ => (VR_not_num hx).2.2.2.1 _ _ _ h1
    split at h
    · cases he : eqD P t x y with
      | none => rw [he] at h; cases h
      | some b =>
        rw [he] at h; cases h
        obtain ⟨hg, hq⟩ := eqD_sound he hx hy ox oy .eql w
        exact ⟨.bool b, by simp only [Sem.run_bind, hg, Result.andThen_ok]; exact (eql_of hq hi' hs' hf' hc').1 rfl, VR_bool _⟩
    · cases he : eqD P t x y with
      | none => rw [he] at h; cases h
      | some b =>
        rw [he] at h; cases h
        obtain ⟨hg, hq⟩ := eqD_sound he hx hy ox oy .neq w
        exact ⟨.bool (!b), by simp only [Sem.run_bind, hg, Result.andThen_ok]; exact (eql_of hq hi' hs' hf' hc').2 rfl, VR_bool _⟩
    · cases h

theorem un_sound {op : UnOp} {x d : DV} {v : Value} (h : unD op x = some d) (hx : VR ρ x v) (w : World) : ∃ u, (Op.unary op v).run P w = .ok u w ∧ VR ρ d u := by
  unfold unD at h
  split at h
  · cases h; simp only [VR] at hx; subst hx; exact ⟨_, by simp [Op.unary, Op.intArith], VR_int _ _⟩
  · cases h; simp only [VR] at hx; subst hx; exact ⟨_, by simp [Op.unary, Op.intBits], VR_int _ _⟩
  · cases h; simp only [VR] at hx; subst hx; exact ⟨_, by simp [Op.unary], VR_bool _⟩
  · cases h
end
end Go.Det
