/- The operations that neither read nor write: the machine does what the deterministic reading tells. -/
import Derived.Laws.Sem
import Derived.Laws.Cells
import Derived.Laws.StructEq
import Derived.Test.YtlmjhpnmfmnmgaaDoorCovT1
namespace Go.Det
set_option linter.unusedVariables false
set_option linter.unusedSimpArgs false
section
variable {P : Program} {ρ : Rho}
theorem r_underlying {t : TypeId} {d : TypeDesc} (h : P.underlying t = some d) (w : World) : (underlying t).run P w = .ok d w := by
  simp [underlying, h]
theorem r_info {t : TypeId} {i : TypeInfo} (h : P.info? t = some i) (w : World) : (typeInfo t).run P w = .ok i w := by
  simp [typeInfo, h]
theorem sizeT_info {t : TypeId} {n : Nat} (h : sizeT P t = some n) : ∃ i, P.info? t = some i ∧ i.size = n := by
  unfold sizeT at h
  cases hi : P.info? t with
  | none => rw [hi] at h; cases h
  | some i => rw [hi] at h; simp at h; exact ⟨i, rfl, h⟩
theorem r_sizeOf {t : TypeId} {n : Nat} (h : sizeT P t = some n) (w : World) : (sizeOf t).run P w = .ok n w := by
  obtain ⟨i, hi, rfl⟩ := sizeT_info h
  simp [sizeOf, r_info hi]
theorem r_isAgg {t : TypeId} {b : Bool} (h : aggT P t = some b) (w : World) : (isAgg t).run P w = .ok b w := by
  unfold aggT at h
  cases hu : P.underlying t with
  | none => rw [hu] at h; cases h
  | some d =>
    rw [hu] at h
    simp only [Option.map_some, Option.some.injEq] at h
    subst h
    simp only [isAgg, Sem.run_bind, r_underlying hu, Result.andThen_ok]
    cases d <;> rfl
theorem zeroT_value {t : TypeId} {z : DV} (h : zeroT P t = some z) : ∃ i v, P.info? t = some i ∧ i.zero = some v ∧ ofValue v = some z := by
  unfold zeroT at h
  cases hi : P.info? t with
  | none => rw [hi] at h; cases h
  | some i =>
    rw [hi] at h
    simp only [Option.bind_some] at h
    cases hz : i.zero with
    | none => rw [hz] at h; cases h
    | some v => rw [hz] at h; exact ⟨i, v, rfl, hz, h⟩
theorem r_zero {t : TypeId} {z : DV} (h : zeroT P t = some z) (ρ : Rho) (w : World) : ∃ v, (zeroValue t).run P w = .ok v w ∧ VR ρ z v := by
  obtain ⟨i, v, hi, hz, hv⟩ := zeroT_value h
  exact ⟨v, by simp [zeroValue, r_info hi, hz], ofValue_sound ρ hv⟩
theorem all_take {cs : List DV} (n : Nat) (h : cs.all DV.one = true) : (cs.take n).all DV.one = true := by
  rw [List.all_eq_true] at h ⊢; exact fun x hx => h x (List.mem_of_mem_take hx)
theorem all_drop {cs : List DV} (n : Nat) (h : cs.all DV.one = true) : (cs.drop n).all DV.one = true := by
  rw [List.all_eq_true] at h ⊢; exact fun x hx => h x (List.mem_of_mem_drop hx)
theorem all_get {cs : List DV} {n : Nat} {x : DV} (h : cs.all DV.one = true) (hx : cs[n]? = some x) : x.one = true := by
  rw [List.all_eq_true] at h; exact h x (List.mem_of_getElem? hx)
theorem part_sound {t : TypeId} {cs : List DV} {off : Nat} {d : DV} (h : partD P t cs off = some d) {vs : Array Value} (hv : VRs ρ cs vs.toList) (h1 : cs.all DV.one = true) (w : World) :
    ∃ v, (part t vs off).run P w = .ok v w ∧ VR ρ d v := by
  unfold partD at h
  split at h
  · rename_i n ha hs
    split at h
    · rename_i hle
      cases h
      refine ⟨.agg (vs.extract off (off + n)), by simp [part, r_isAgg ha, r_sizeOf hs], ?_⟩
      simp only [VR]
      refine ⟨all_take _ (all_drop _ h1), _, rfl, ?_⟩
      have := (hv.drop off).take n
      rw [Array.toList_extract, List.extract_eq_take_drop]
      simpa using this
    · cases h
  · rename_i ha hs
    obtain ⟨y, hy, hr⟩ := VRs.get off hv h
    refine ⟨y, ?_, hr⟩
    rw [Array.getElem?_toList] at hy
    simp [part, r_isAgg ha, hy]
  · cases h
/-! #### build -/
theorem splice_length (cs vs : List DV) (off : Nat) (h : off + vs.length ≤ cs.length) : (splice cs off vs).length = cs.length := by
  simp [splice]; omega
theorem splice_get (cs vs : List DV) (off i : Nat) (h : off + vs.length ≤ cs.length) : (splice cs off vs)[i]? = if off ≤ i ∧ i < off + vs.length then vs[i - off]? else cs[i]? := by
  unfold splice
  have hm : min off cs.length = off := by omega
  rw [List.getElem?_append, List.getElem?_append]
  simp only [List.length_take, List.getElem?_take, List.getElem?_drop, hm]
  by_cases h1 : i < off
  · rw [if_pos h1, if_pos h1, if_neg (by omega)]
  · rw [if_neg h1]
    by_cases h2 : i - off < vs.length
    · rw [if_pos h2, if_pos (by omega)]
    · rw [if_neg h2, if_neg (by omega)]
      congr 1
      omega
theorem fold_set (vs : List Value) : ∀ (off k : Nat) (cells : Array Value), k + off + vs.length ≤ cells.size → ∀ i, ((vs.zipIdx k).foldl (fun cs (p : Value × Nat) => cs.setIfInBounds (off + p.2) p.1) cells).toList[i]? =
    if off + k ≤ i ∧ i < off + k + vs.length then vs[i - (off + k)]? else cells.toList[i]? := by
  induction vs with
  | nil => intro off k cells _ i; simp; intro h1 h2; omega
  | cons v r ih =>
    intro off k cells h i
    simp only [List.zipIdx_cons, List.foldl_cons, List.length_cons] at h ⊢
    rw [ih off (k + 1) _ (by simp; omega) i]
    by_cases h1 : off + (k + 1) ≤ i ∧ i < off + (k + 1) + r.length
    · rw [if_pos h1, if_pos (by omega)]
      have : i - (off + k) = (i - (off + (k + 1))) + 1 := by omega
      rw [this]; rfl
    · rw [if_neg h1]
      rw [Array.getElem?_toList, Array.getElem?_setIfInBounds]
      by_cases h2 : off + k = i
      · subst h2
        rw [if_pos rfl, if_pos (by omega), if_pos (by omega)]
        simp
      · rw [if_neg h2, if_neg (by omega), Array.getElem?_toList]
theorem fold_size (vs : List Value) : ∀ (off k : Nat) (cells : Array Value), ((vs.zipIdx k).foldl (fun cs (p : Value × Nat) => cs.setIfInBounds (off + p.2) p.1) cells).size = cells.size := by
  induction vs with
  | nil => intro off k cells; rfl
  | cons v r ih => intro off k cells; simp only [List.zipIdx_cons, List.foldl_cons]; rw [ih]; simp
theorem splice_sound {cs ds : List DV} {cells vs : Array Value} (hc : VRs ρ cs cells.toList) (hd : VRs ρ ds vs.toList) (off : Nat) (h : off + ds.length ≤ cs.length) :
    VRs ρ (splice cs off ds) (vs.zipIdx.foldl (fun cs (p : Value × Nat) => cs.setIfInBounds (off + p.2) p.1) cells).toList := by
  have hlc := VRs.length hc
  have hld := VRs.length hd
  rw [← Array.foldl_toList, Array.toList_zipIdx]
  refine VRs.of_get ?_ fun i x y hx hy => ?_
  · rw [splice_length _ _ _ h, ← hlc]
    simp only [Array.length_toList]
    exact fold_size _ _ _ _
  · rw [splice_get _ _ _ _ h] at hx
    rw [fold_set _ _ _ _ (by simp at hlc hld ⊢; omega)] at hy
    simp only [Nat.add_zero, hld] at hy
    split at hx
    · rename_i h1
      rw [if_pos h1] at hy
      obtain ⟨y', hy', hr⟩ := VRs.get _ hd hx
      rw [hy'] at hy; cases hy; exact hr
    · rename_i h1
      rw [if_neg h1] at hy
      obtain ⟨y', hy', hr⟩ := VRs.get _ hc hx
      rw [hy'] at hy; cases hy; exact hr
theorem splice_all {cs ds : List DV} (off : Nat) (h1 : cs.all DV.one = true) (h2 : ds.all DV.one = true) : (splice cs off ds).all DV.one = true := by
  simp only [splice, List.all_append, Bool.and_eq_true]
  exact ⟨all_take _ h1, h2, all_drop _ h1⟩
def PartsR (ρ : Rho) : List (Nat × DV) → List (Nat × Value) → Prop
  | [], vs => vs = []
  | (i, d) :: ds, vs => ∃ v r, vs = (i, v) :: r ∧ VR ρ d v ∧ PartsR ρ ds r
theorem evParts_sound {ev : Ev} {e : Operand → Value} (he : EvR ρ ev e) : ∀ {ps : List (Nat × Operand)} {ds : List (Nat × DV)}, evParts ev ps = some ds → PartsR ρ ds (ps.map fun (i, x) => (i, e x))
  | [], _, h => by simp only [evParts] at h; cases h; simp [PartsR]
  | (i, x) :: r, _, h => by
    simp only [evParts] at h
    split at h
    · rename_i d ds hd hds
      cases h
      simp only [PartsR, List.map_cons]
      exact ⟨_, _, rfl, he _ _ hd, evParts_sound he hds⟩
    · cases h
theorem fill_sound {pl pl' : Nat → Option (Nat × Nat)} (hp : ∀ i x, pl i = some x → pl' i = some x) : ∀ {ps : List (Nat × DV)} {vs : List (Nat × Value)} {cs cs' : List DV} {cells : Array Value},
    fillD pl cs ps = some cs' → PartsR ρ ps vs → VRs ρ cs cells.toList → cs.all DV.one = true → ∃ cells', Instr.fill pl' cells vs = some cells' ∧ VRs ρ cs' cells'.toList ∧ cs'.all DV.one = true
  | [], _, cs, cs', cells, h, hv, hc, h1 => by
    simp only [PartsR] at hv
    subst hv
    simp only [fillD] at h
    cases h
    exact ⟨cells, rfl, hc, h1⟩
  | (i, d) :: ps, _, cs, cs', cells, h, hv, hc, h1 => by
    simp only [PartsR] at hv
    obtain ⟨v, r, rfl, hd, hr⟩ := hv
    simp only [fillD] at h
    split at h
    · cases h
    · rename_i off size hpl
      split at h
      · rename_i hcond
        obtain ⟨hs, hle, hall⟩ := hcond
        have hdc := VR.cells hd
        have hl1 := VRs.length hdc
        have hl2 := VRs.length hc
        simp only [Array.length_toList] at hl1 hl2
        simp only [Instr.fill, hp _ _ hpl]
        have hn : ¬ ((decide (v.cells.size ≠ size) || decide (off + v.cells.size > cells.size)) = true) := by simp; omega
        rw [if_neg hn]
        exact fill_sound hp h hr (splice_sound hc hdc off (by omega)) (splice_all off h1 hall)
      · cases h
theorem build_places {fs : Array Field} {f : Field → Sem (Nat × Nat)} (w : World) (h : fs.toList.all (fun f => (sizeT P f.type).isSome) = true)
    (hf : f = fun f => do pure (f.offset, ← sizeOf f.type)) :
    ∃ places : Array (Nat × Nat), (fs.mapM f).run P w = .ok places w ∧ ∀ i x, fieldsPlace P fs i = some x → places[i]? = some x := by
  subst hf
  have key : ∀ (l : List Field), l.all (fun f => (sizeT P f.type).isSome) = true →
      (l.mapM (fun f => do pure (f.offset, ← sizeOf f.type) : Field → Sem (Nat × Nat))).run P w = .ok (l.map fun f => (f.offset, (sizeT P f.type).getD 0)) w := by
    intro l
    induction l with
    | nil => intro _; simp
    | cons f l ih =>
      intro hl
      simp only [List.all_cons, Bool.and_eq_true] at hl
      obtain ⟨h1, h2⟩ := hl
      obtain ⟨n, hn⟩ := Option.isSome_iff_exists.mp h1
      simp only [List.mapM_cons, Sem.run_bind, r_sizeOf hn, Result.andThen_ok, Sem.run_pure, ih h2, List.map_cons, hn, Option.getD_some]
  have hk := key fs.toList h
  refine ⟨(fs.toList.map fun f => (f.offset, (sizeT P f.type).getD 0)).toArray, ?_, ?_⟩
  · rw [Array.mapM_eq_mapM_toList]
    rw [Sem.run_map, hk]
    rfl
  · intro i x hx
    unfold fieldsPlace at hx
    split at hx
    · rename_i f hfi
      cases hs : sizeT P f.type with
      | none => rw [hs] at hx; cases hx
      | some s =>
        rw [hs] at hx
        simp only [Option.map_some, Option.some.injEq] at hx
        subst hx
        simp only [List.getElem?_toArray, List.getElem?_map, Array.getElem?_toList, hfi, Option.map_some, hs, Option.getD_some]
    · cases hx
theorem build_sound {t : TypeId} {ps : List (Nat × DV)} {d : DV} (h : buildD P t ps = some d) {vs : Array (Nat × Value)} (hv : PartsR ρ ps vs.toList) (w : World) :
    ∃ v, (Instr.build t vs).run P w = .ok v w ∧ VR ρ d v := by
  unfold buildD at h
  split at h
  · rename_i z fs hz hu
    split at h
    · rename_i hfs
      obtain ⟨zv, hzr, hzv⟩ := r_zero hz ρ w
      simp only [VR] at hzv
      obtain ⟨hz1, zc, rfl, hzc⟩ := hzv
      obtain ⟨places, hpr, hp⟩ := build_places w hfs rfl
      cases hf : fillD (fieldsPlace P fs) z ps with
      | none => rw [hf] at h; cases h
      | some cs' =>
        rw [hf] at h
        simp only [Option.map_some, Option.some.injEq] at h
        subst h
        obtain ⟨cells', hfill, hc', h1'⟩ := fill_sound (pl' := (places[·]?)) hp hf hv hzc hz1
        refine ⟨.agg cells', ?_, ?_⟩
        · simp only [Instr.build, Sem.run_bind, hzr, r_underlying hu, Result.andThen_ok, hpr, Value.cells, hfill, Sem.run_pure]
        · simp only [VR]
          exact ⟨h1', _, rfl, hc'⟩
    · cases h
  · rename_i z n e hz hu
    split at h
    · rename_i s hs
      obtain ⟨zv, hzr, hzv⟩ := r_zero hz ρ w
      simp only [VR] at hzv
      obtain ⟨hz1, zc, rfl, hzc⟩ := hzv
      cases hf : fillD (fun i => some (i * s, s)) z ps with
      | none => rw [hf] at h; cases h
      | some cs' =>
        rw [hf] at h
        simp only [Option.map_some, Option.some.injEq] at h
        subst h
        obtain ⟨cells', hfill, hc', h1'⟩ := fill_sound (pl' := fun i => some (i * s, s)) (fun _ _ h => h) hf hv hzc hz1
        refine ⟨.agg cells', ?_, ?_⟩
        · simp only [Instr.build, Sem.run_bind, hzr, r_underlying hu, Result.andThen_ok, r_sizeOf hs, Value.cells, hfill, Sem.run_pure]
        · simp only [VR]
          exact ⟨h1', _, rfl, hc'⟩
    · cases h
  · cases h
/-! #### whole numbers, strings -/
theorem VR_int (k : IntKind) (n : Int) : VR ρ (.int k n) (.int k n) := by simp [VR]
theorem VR_bool (b : Bool) : VR ρ (.bool b) (.bool b) := by simp [VR]
theorem VR_str (s : List UInt8) : VR ρ (.str s) (.string ⟨s.toArray⟩) := by simp [VR]
theorem arith_sound {op : BinOp} {k : IntKind} {a b : Int} {d : DV} (h : arithD op k a b = some d) (hs : op ≠ .shl) (hr : op ≠ .shr) (x y : Operand) (t : TypeId) (w : World) :
    ∃ v, (do eqGuard op t x y (.int k a) (.int k b); binOp op t (.int k a) (.int k b) : Sem Value).run P w = .ok v w ∧ VR ρ d v := by
  have hg : (eqGuard op t x y (.int k a) (.int k b)).run P w = .ok () w := by
    cases op <;> simp [eqGuard]
  simp only [Sem.run_bind, hg, Result.andThen_ok]
  cases op <;> simp only [arithD] at h
  case shl => exact absurd rfl hs
  case shr => exact absurd rfl hr
  case quo =>
    split at h
    · cases h
    · rename_i hb; cases h; exact ⟨_, by simp [binOp, Op.intDiv, hb], VR_int _ _⟩
  case rem =>
    split at h
    · cases h
    · rename_i hb; cases h; exact ⟨_, by simp [binOp, Op.intDiv, hb], VR_int _ _⟩
  all_goals (cases h; first | exact ⟨_, by simp [binOp, Op.intArith, Op.intBits, Op.intCmp], VR_int _ _⟩ | exact ⟨_, by simp [binOp, Op.intArith, Op.intBits, Op.intCmp], VR_bool _⟩)
theorem shift_sound {op : BinOp} {k j : IntKind} {a b : Int} {d : DV} (h : shiftD op k a b = some d) (x y : Operand) (t : TypeId) (w : World) :
    ∃ v, (do eqGuard op t x y (.int k a) (.int j b); binOp op t (.int k a) (.int j b) : Sem Value).run P w = .ok v w ∧ VR ρ d v := by
  unfold shiftD at h
  split at h
  · cases h
  · rename_i hb
    split at h
    · cases h
      exact ⟨_, by simp only [Sem.run_bind]; simp [eqGuard, binOp, Op.shift, hb], VR_int _ _⟩
    · cases h
      exact ⟨_, by simp only [Sem.run_bind]; simp [eqGuard, binOp, Op.shift, hb], VR_int _ _⟩
    · cases h
theorem toList_loop : ∀ (n i : Nat) (r : List UInt8) (bs : ByteArray), bs.data.size - i = n → ByteArray.toList.loop bs i r = r.reverse ++ bs.data.toList.drop i := by
  intro n
  induction n with
  | zero =>
    intro i r bs h
    unfold ByteArray.toList.loop
    have h1 : ¬ i < bs.size := by show ¬ i < bs.data.size; omega
    rw [if_neg h1]
    have : bs.data.toList.length ≤ i := by rw [Array.length_toList]; omega
    rw [List.drop_eq_nil_of_le this, List.append_nil]
  | succ n ih =>
    intro i r bs h
    unfold ByteArray.toList.loop
    have h1 : i < bs.size := by show i < bs.data.size; omega
    rw [if_pos h1, ih (i + 1) _ bs (by omega)]
    have hi' : i < bs.data.size := by omega
    have hi : i < bs.data.toList.length := by rw [Array.length_toList]; omega
    rw [List.drop_eq_getElem_cons hi, List.reverse_cons, List.append_assoc]
    have he : bs.get! i = bs.data.toList[i] := by
      show bs.data[i]! = _
      rw [getElem!_pos bs.data i hi', Array.getElem_toList]
    rw [he]
    rfl
theorem toList_mk (s : List UInt8) : (⟨s.toArray⟩ : ByteArray).toList = s := by
  unfold ByteArray.toList
  rw [toList_loop _ 0 [] _ rfl]
  simp
theorem append_mk (a b : List UInt8) : (⟨a.toArray⟩ ++ ⟨b.toArray⟩ : ByteArray) = ⟨(a ++ b).toArray⟩ := by
  apply ByteArray.ext
  simp [ByteArray.data_append]
theorem str_sound {op : BinOp} {a b : List UInt8} {d : DV} (h : strOpD op a b = some d) (x y : Operand) (t : TypeId) (w : World) :
    ∃ v, (do eqGuard op t x y (.string ⟨a.toArray⟩) (.string ⟨b.toArray⟩); binOp op t (.string ⟨a.toArray⟩) (.string ⟨b.toArray⟩) : Sem Value).run P w = .ok v w ∧ VR ρ d v := by
  have hg : (eqGuard op t x y (.string ⟨a.toArray⟩) (.string ⟨b.toArray⟩)).run P w = .ok () w := by
    cases op <;> simp [eqGuard]
  simp only [Sem.run_bind, hg, Result.andThen_ok]
  cases op <;> simp only [strOpD] at h
  case add =>
    split at h
    · cases h
      rename_i hb
      refine ⟨.string ⟨(a ++ b).toArray⟩, ?_, by simp [VR]⟩
      have hn : ¬ (((ByteArray.size ⟨a.toArray⟩ + ByteArray.size ⟨b.toArray⟩ : Nat) : Int) > IntKind.i64.max) := by
        simp only [ByteArray.size, List.size_toArray, IntKind.max, IntKind.signed, IntKind.bits]
        simp
        omega
      simp only [binOp, Op.stringOp, Sem.run_ite, if_neg hn, Sem.run_pure, append_mk]
    · cases h
  all_goals first | (cases h; done) | (cases h; exact ⟨_, by simp [binOp, Op.stringOp, toList_mk], VR_bool _⟩)
/-! #### '==' -/
theorem mk_inj {a b : List UInt8} : ((⟨a.toArray⟩ : ByteArray) == ⟨b.toArray⟩) = (a == b) := by
  rw [beq_toListBytes, toList_mk, toList_mk]
theorem eqT_sound : ∀ (d D : Nat) (t : TypeId) (x y : DV) (vx vy : Value) (b : Bool) (w : World), eqT P d t x y = some b → d ≤ D → VR ρ x vx → VR ρ y vy →
    (Op.equalIn D t vx vy).run P w = .ok b w
  | 0, _, _, _, _, _, _, _, _, h, _, _, _ => by simp [eqT] at h
  | d + 1, 0, _, _, _, _, _, _, _, _, hd, _, _ => by omega
  | d + 1, D + 1, t, x, y, vx, vy, b, w, h, hd, hx, hy => by
    simp only [eqT] at h
    split at h
    · rename_i hu; cases h; simp only [VR] at hx hy; subst hx; subst hy
      simp [Op.equalIn, r_underlying hu]
    · rename_i hu
      split at h
      · rename_i e; cases h; subst e; simp only [VR] at hx hy; subst hx; subst hy
        simp [Op.equalIn, r_underlying hu]
      · cases h
    · rename_i hu; cases h; simp only [VR] at hx hy; subst hx; subst hy
      simp [Op.equalIn, r_underlying hu, mk_inj]
    · rename_i fs xs ys hu
      split at h
      · cases h
      · rename_i hc
        simp only [not_or, Bool.not_eq_true, Bool.not_eq_false] at hc
        obtain ⟨hst, h1, h2⟩ := hc
        simp only [VR] at hx hy
        obtain ⟨_, cx, rfl, hx⟩ := hx
        obtain ⟨_, cy, rfl, hy⟩ := hy
        have hf : P.fieldsOf t = fs := by simp [Program.fieldsOf, hu]
        rw [run_equalIn_struct w D t cx cy (by rw [hf]; exact hu) hst, hf]
        clear hu hf hst
        generalize fs.toList = l at h
        induction l generalizing b w with
        | nil => simp only [eqFs] at h; cases h; simp [Op.eqFields]
        | cons f l ih =>
          simp only [eqFs] at h
          split at h
          · rename_i hn
            rw [Op.eqFields, if_neg (by simpa using hn)]
            exact ih b w h
          · rename_i hn
            split at h
            · rename_i a b' ha hb
              obtain ⟨va, hra, hva⟩ := part_sound ha hx h1 w
              obtain ⟨vb, hrb, hvb⟩ := part_sound hb hy h2 w
              rw [Op.eqFields, if_pos hn]
              split at h
              · rename_i he
                have := eqT_sound d D f.type a b' va vb true w he (by omega) hva hvb
                simp only [Sem.run_bind, hra, hrb, this, Result.andThen_ok]
                simpa using ih b w h
              · rename_i he
                cases h
                have := eqT_sound d D f.type a b' va vb false w he (by omega) hva hvb
                simp only [Sem.run_bind, hra, hrb, this, Result.andThen_ok]
                simp
              · cases h
            · cases h
    · rename_i hu; cases h
      simp only [VR] at hx
      subst hx
      rename_i p
      cases p with
      | none => simp only [VR] at hy; subst hy; simp [Op.equalIn, r_underlying hu]
      | some p => obtain ⟨l, i, o⟩ := p; simp only [VR] at hy; obtain ⟨pl, _, rfl⟩ := hy; simp [Op.equalIn, r_underlying hu]
    · rename_i p hne hu; cases h
      simp only [VR] at hy
      subst hy
      cases p with
      | none => exact (hne rfl).elim
      | some p => obtain ⟨l, i, o⟩ := p; simp only [VR] at hx; obtain ⟨pl, _, rfl⟩ := hx; simp [Op.equalIn, r_underlying hu]
    · rename_i p _ _ _ hu; cases h
      simp only [VR] at hx
      obtain ⟨_, _, rfl⟩ := hx
      cases p with
      | none => simp only [VR] at hy; obtain ⟨_, _, rfl⟩ := hy; simp [Op.equalIn, r_underlying hu]
      | some p => obtain ⟨l, i, z⟩ := p; simp only [VR] at hy; obtain ⟨pl, a, c, _, _, rfl, _⟩ := hy; simp [Op.equalIn, r_underlying hu]
    · rename_i p _ _ _ _ _ _ hne hu; cases h
      simp only [VR] at hy
      obtain ⟨_, _, rfl⟩ := hy
      cases p with
      | none => exact (hne rfl).elim
      | some p => obtain ⟨l, i, z⟩ := p; simp only [VR] at hx; obtain ⟨pl, a, c, _, _, rfl, _⟩ := hx; simp [Op.equalIn, r_underlying hu]
    · rename_i p hu; cases h
      simp only [VR] at hx
      subst hx
      cases p with
      | none => simp only [VR] at hy; subst hy; simp [Op.equalIn, r_underlying hu]
      | some p => simp only [VR] at hy; obtain ⟨pl, _, rfl⟩ := hy; simp [Op.equalIn, r_underlying hu]
    · rename_i p hne hu; cases h
      simp only [VR] at hy
      subst hy
      cases p with
      | none => exact (hne rfl).elim
      | some p => simp only [VR] at hx; obtain ⟨pl, _, rfl⟩ := hx; simp [Op.equalIn, r_underlying hu]
    · rename_i hu; cases h; simp only [VR] at hx hy; subst hx; subst hy; simp [Op.equalIn, r_underlying hu]
    · rename_i hu; cases h; simp only [VR] at hx hy; subst hx; obtain ⟨_, _, rfl, _⟩ := hy; simp [Op.equalIn, r_underlying hu]
    · rename_i hu; cases h; simp only [VR] at hx hy; subst hy; obtain ⟨_, _, rfl, _⟩ := hx; simp [Op.equalIn, r_underlying hu]
    · rename_i hu; cases h; simp only [VR] at hx hy; subst hx; obtain ⟨_, rfl, _⟩ := hy; simp [Op.equalIn, r_underlying hu]
    · rename_i hu; cases h; simp only [VR] at hx hy; subst hy; obtain ⟨_, rfl, _⟩ := hx; simp [Op.equalIn, r_underlying hu]
    · cases h
theorem eql_of {op : BinOp} {t : TypeId} {vx vy : Value} {b : Bool} {w : World} (he : (Op.equalIn 10000 t vx vy).run P w = .ok b w)
    (hi : ∀ k a j c, ¬ (vx = .int k a ∧ vy = .int j c)) (hs : ∀ a c, ¬ (vx = .string a ∧ vy = .string c)) (hf : ∀ k a j c, ¬ (vx = .float k a ∧ vy = .float j c)) (hc : ∀ k a a' j c c', ¬ (vx = .complex k a a' ∧ vy = .complex j c c')) :
    (op = .eql → (binOp op t vx vy).run P w = .ok (.bool b) w) ∧ (op = .neq → (binOp op t vx vy).run P w = .ok (.bool (!b)) w) := by
  constructor
  · rintro rfl
    unfold binOp
    split <;> first
      | (exfalso; first | exact hi _ _ _ _ ⟨rfl, rfl⟩ | exact hs _ _ ⟨rfl, rfl⟩ | exact hf _ _ _ _ ⟨rfl, rfl⟩ | exact hc _ _ _ _ _ _ ⟨rfl, rfl⟩)
      | (simp only [Op.equal, Op.maxDepth, Sem.run_bind, he, Result.andThen_ok, Sem.run_pure]; done)
      | simp_all
  · rintro rfl
    unfold binOp
    split <;> first
      | (exfalso; first | exact hi _ _ _ _ ⟨rfl, rfl⟩ | exact hs _ _ ⟨rfl, rfl⟩ | exact hf _ _ _ _ ⟨rfl, rfl⟩ | exact hc _ _ _ _ _ _ ⟨rfl, rfl⟩)
      | (simp only [Op.equal, Op.maxDepth, Sem.run_bind, he, Result.andThen_ok, Sem.run_pure]; done)
      | simp_all
theorem guard_of {op : BinOp} {t : TypeId} {x y : Operand} {vx vy : Value} {w : World} (h1 : ¬ (vx = .nilIface ∧ vy = .nilIface)) (h2 : ∀ a b, vx = .agg a → vy = .agg b → P.eqGuardType P.depth t = false) :
    (eqGuard op t x y vx vy).run P w = .ok () w := by
  have key : ∀ o : BinOp, o = .eql ∨ o = .neq → (eqGuard o t x y vx vy).run P w = .ok () w := by
    intro o ho
    cases vx with
    | nilIface => cases vy with
      | nilIface => exact absurd ⟨rfl, rfl⟩ h1
      | _ => rcases ho with rfl | rfl <;> rfl
    | agg a => cases vy with
      | agg b => rcases ho with rfl | rfl <;> simp [eqGuard, h2 _ _ rfl rfl]
      | _ => rcases ho with rfl | rfl <;> rfl
    | _ => rcases ho with rfl | rfl <;> rfl
  cases op
  case eql => exact key _ (.inl rfl)
  case neq => exact key _ (.inr rfl)
  all_goals rfl
theorem VR_not_num {d : DV} {v : Value} (h : VR ρ d v) : (∀ k a, v = .int k a → ∃ k a, d = .int k a) ∧ (∀ a, v = .string a → ∃ a, d = .str a) ∧ (∀ k a, v ≠ .float k a) ∧ (∀ k a b, v ≠ .complex k a b) ∧ (v = .nilIface → d = .nilIface) ∧ (∀ a, v = .agg a → ∃ a, d = .agg a) := by
  cases d <;> (try simp only [VR] at h)
  case ptr p => cases p with
    | none => simp only [VR] at h; subst h; simp
    | some p => obtain ⟨l, i, o⟩ := p; simp only [VR] at h; obtain ⟨pl, hp, rfl⟩ := h; simp
  case sl p n c ex => cases p with
    | none => simp only [VR] at h; obtain ⟨_, _, rfl⟩ := h; simp
    | some p => obtain ⟨l, i, z⟩ := p; simp only [VR] at h; obtain ⟨pl, a, c', hp, hz, rfl, _⟩ := h; simp
  case map r => cases r with
    | none => simp only [VR] at h; subst h; simp
    | some r => simp only [VR] at h; obtain ⟨pl, hp, rfl⟩ := h; simp
  case func => obtain ⟨_, _, rfl, _⟩ := h; simp
  case iface => obtain ⟨_, rfl, _⟩ := h; simp
  case agg => obtain ⟨_, _, rfl, _⟩ := h; simp
  case tuple => obtain ⟨_, rfl, _⟩ := h; simp
  all_goals (subst h; simp)
theorem eqT_not_nilIface {d : Nat} {t : TypeId} {b : Bool} : eqT P d t .nilIface .nilIface ≠ some b := by
  cases d with
  | zero => simp [eqT]
  | succ d => simp only [eqT]; split <;> simp_all
theorem eqD_sound {t : TypeId} {x y : DV} {vx vy : Value} {b : Bool} (h : eqD P t x y = some b) (hx : VR ρ x vx) (hy : VR ρ y vy) (ox oy : Operand) (op : BinOp) (w : World) :
    (eqGuard op t ox oy vx vy).run P w = .ok () w ∧ (Op.equalIn 10000 t vx vy).run P w = .ok b w := by
  obtain ⟨_, _, _, _, nx, ax⟩ := VR_not_num hx
  obtain ⟨_, _, _, _, ny, ay⟩ := VR_not_num hy
  have h20 : eqT P 20 t x y = some b ∧ ((∃ a c, x = .agg a ∧ y = .agg c) → P.eqGuardType P.depth t = false) := by
    unfold eqD at h
    split at h
    · split at h
      · cases h
      · rename_i hg; exact ⟨h, fun _ => by simpa using hg⟩
    · rename_i hne
      exact ⟨h, fun ⟨a, c, ha, hc⟩ => (hne a c ha hc).elim⟩
  refine ⟨guard_of ?_ ?_, eqT_sound 20 10000 t x y vx vy b w h20.1 (by omega) hx hy⟩
  · rintro ⟨h1, h2⟩
    have e1 := nx h1
    have e2 := ny h2
    subst e1; subst e2
    exact eqT_not_nilIface h20.1
  · intro a c ha hc
    obtain ⟨a', ha'⟩ := ax _ ha
    obtain ⟨c', hc'⟩ := ay _ hc
    exact h20.2 ⟨a', c', ha', hc'⟩
theorem bin_sound {op : BinOp} {t : TypeId} {x y d : DV} {vx vy : Value} (h : binD P op t x y = some d) (hx : VR ρ x vx) (hy : VR ρ y vy) (ox oy : Operand) (w : World) :
    ∃ v, (do eqGuard op t ox oy vx vy; binOp op t vx vy : Sem Value).run P w = .ok v w ∧ VR ρ d v := by
  unfold binD at h
  split at h
  · rename_i j a k b
    simp only [VR] at hx hy
    subst hx; subst hy
    split at h
    · exact shift_sound h _ _ _ _
    · exact shift_sound h _ _ _ _
    · rename_i hs hr
      split at h
      · rename_i e; subst e; exact arith_sound h (fun e => hs e) (fun e => hr e) _ _ _ _
      · cases h
  · simp only [VR] at hx hy
    subst hx; subst hy
    exact str_sound h _ _ _ _
  · rename_i hi hs
    have hi' : ∀ k a j c, ¬ (vx = .int k a ∧ vy = .int j c) := by
      rintro k a j c ⟨h1, h2⟩
      obtain ⟨k', a', e1⟩ := (VR_not_num hx).1 _ _ h1
      obtain ⟨j', c', e2⟩ := (VR_not_num hy).1 _ _ h2
      exact hi _ _ _ _ e1 e2
    have hs' : ∀ a c, ¬ (vx = .string a ∧ vy = .string c) := by
      rintro a c ⟨h1, h2⟩
      obtain ⟨a', e1⟩ := (VR_not_num hx).2.1 _ h1
      obtain ⟨c', e2⟩ := (VR_not_num hy).2.1 _ h2
      exact hs _ _ e1 e2
    have hf' : ∀ k a j c, ¬ (vx = .float k a ∧ vy = .float j c) := fun k a j c ⟨h1, _⟩ => (VR_not_num hx).2.2.1 _ _ h1
    have hc' : ∀ k a a' j c c', ¬ (vx = .complex k a a' ∧ vy = .complex j c c') := fun k a a' j c c' ⟨h1, _⟩ => (VR_not_num hx).2.2.2.1 _ _ _ h1
    split at h
    · cases he : eqD P t x y with
      | none => rw [he] at h; cases h
      | some b =>
        rw [he] at h; cases h
        obtain ⟨hg, hq⟩ := eqD_sound he hx hy ox oy .eql w
        exact ⟨.bool b, by simp only [Sem.run_bind, hg, Result.andThen_ok]; exact (eql_of hq hi' hs' hf' hc').1 rfl, VR_bool _⟩
    · cases he : eqD P t x y with
      | none => rw [he] at h; cases h
      | some b =>
        rw [he] at h; cases h
        obtain ⟨hg, hq⟩ := eqD_sound he hx hy ox oy .neq w
        exact ⟨.bool (!b), by simp only [Sem.run_bind, hg, Result.andThen_ok]; exact (eql_of hq hi' hs' hf' hc').2 rfl, VR_bool _⟩
    · cases h
theorem un_sound {op : UnOp} {x d : DV} {v : Value} (h : unD op x = some d) (hx : VR ρ x v) (w : World) : ∃ u, (Op.unary op v).run P w = .ok u w ∧ VR ρ d u := by
  unfold unD at h
  split at h
  · cases h; simp only [VR] at hx; subst hx; exact ⟨_, by simp [Op.unary, Op.intArith], VR_int _ _⟩
  · cases h; simp only [VR] at hx; subst hx; exact ⟨_, by simp [Op.unary, Op.intBits], VR_int _ _⟩
  · cases h; simp only [VR] at hx; subst hx; exact ⟨_, by simp [Op.unary], VR_bool _⟩
  · cases h
end
end Go.Det

/- The operations that neither read nor write, all of them. -/
namespace Go.Det
set_option linter.unusedVariables false
set_option linter.unusedSimpArgs false
section
variable {P : Program} {ρ : Rho}
theorem evs_sound {ev : Ev} {e : Operand → Value} (he : EvR ρ ev e) : ∀ {xs : List Operand} {ds : List DV}, evs ev xs = some ds → VRs ρ ds (xs.map e)
  | [], _, h => by simp only [evs] at h; cases h; exact .nil
  | x :: r, _, h => by
    simp only [evs] at h
    split at h
    · rename_i d ds hd hds; cases h; exact .cons (he _ _ hd) (evs_sound he hds)
    · cases h
def OptR (ρ : Rho) : Option DV → Option Value → Prop
  | none, v => v = none
  | some d, v => ∃ x, v = some x ∧ VR ρ d x
theorem evOpt_sound {ev : Ev} {e : Operand → Value} (he : EvR ρ ev e) {x : Option Operand} {d : Option DV} (h : evOpt ev x = some d) : OptR ρ d (x.map e) := by
  cases x with
  | none => simp only [evOpt] at h; cases h; rfl
  | some x =>
    simp only [evOpt] at h
    cases hx : ev x with
    | none => rw [hx] at h; cases h
    | some a => rw [hx] at h; cases h; exact ⟨_, rfl, he _ _ hx⟩
theorem bound_sound {y n : Nat} {d : DV} {v : Value} (h : boundD y d = some n) (hv : VR ρ d v) (code : BoundsCode) (w : World) : (Instr.sliceBound v y code).run P w = .ok n w := by
  unfold boundD at h
  split at h
  · rename_i i
    split at h
    · rename_i hc; cases h; simp only [VR] at hv; subst hv; simp [Instr.sliceBound, asIntOf, hc]
    · cases h
  · cases h
theorem bounds_sound {len cap : Nat} {lo hi mx : Option DV} {vl vh vm : Option Value} {r : Nat × Nat × Nat} (isS : Bool) (h : boundsD len cap lo hi mx = some r) (hl : OptR ρ lo vl) (hh : OptR ρ hi vh) (hm : OptR ρ mx vm) (w : World) :
    (Instr.sliceBounds isS len cap vl vh vm).run P w = .ok r w := by
  unfold boundsD at h
  split at h
  · cases h
  · rename_i m hmx
    split at h
    · cases h
    · rename_i hv hhi
      split at h
      · cases h
      · rename_i l hlo
        cases h
        cases mx with
        | none =>
          simp only [OptR] at hm; subst hm; simp only at hmx; cases hmx
          cases hi with
          | none =>
            simp only [OptR] at hh; subst hh; simp only at hhi; cases hhi
            cases lo with
            | none => simp only [OptR] at hl; subst hl; simp only at hlo; cases hlo; simp [Instr.sliceBounds]
            | some lo => simp only [OptR] at hl; obtain ⟨x, rfl, hx⟩ := hl; simp only at hlo; simp [Instr.sliceBounds, bound_sound hlo hx]
          | some hi =>
            simp only [OptR] at hh; obtain ⟨x, rfl, hx⟩ := hh; simp only at hhi
            cases lo with
            | none => simp only [OptR] at hl; subst hl; simp only at hlo; cases hlo; simp [Instr.sliceBounds, bound_sound hhi hx]
            | some lo => simp only [OptR] at hl; obtain ⟨y, rfl, hy⟩ := hl; simp only at hlo; simp [Instr.sliceBounds, bound_sound hlo hy, bound_sound hhi hx]
        | some mx =>
          simp only [OptR] at hm; obtain ⟨z, rfl, hz⟩ := hm; simp only at hmx
          cases hi with
          | none => simp only at hhi; cases hhi
          | some hi =>
            simp only [OptR] at hh; obtain ⟨x, rfl, hx⟩ := hh; simp only at hhi
            cases lo with
            | none => simp only [OptR] at hl; subst hl; simp only at hlo; cases hlo; simp [Instr.sliceBounds, bound_sound hhi hx, bound_sound hmx hz]
            | some lo => simp only [OptR] at hl; obtain ⟨y, rfl, hy⟩ := hl; simp only at hlo; simp [Instr.sliceBounds, bound_sound hlo hy, bound_sound hhi hx, bound_sound hmx hz]
theorem bound_le {y n : Nat} {d : DV} (h : boundD y d = some n) : n ≤ y := by
  unfold boundD at h
  split at h
  · split at h
    · cases h; omega
    · cases h
  · cases h
theorem bounds_le {len cap : Nat} {lo hi mx : Option DV} {l h m : Nat} (e : boundsD len cap lo hi mx = some (l, h, m)) (hc : len ≤ cap) : l ≤ h ∧ h ≤ m ∧ m ≤ cap ∧ (mx = none → m = cap) := by
  unfold boundsD at e
  split at e
  · cases e
  · rename_i m' hm
    split at e
    · cases e
    · rename_i h' hh
      split at e
      · cases e
      · rename_i l' hl
        cases e
        have h1 : m ≤ cap ∧ (mx = none → m = cap) := by
          cases mx with
          | none => simp only at hm; cases hm; exact ⟨Nat.le_refl _, fun _ => rfl⟩
          | some v => simp only at hm; exact ⟨bound_le hm, fun e => by cases e⟩
        have h2 : h ≤ m := by
          cases hi with
          | none => cases mx with
            | none => simp only at hh; cases hh; rw [h1.2 rfl]; exact hc
            | some v => simp only at hh; cases hh
          | some v => cases mx with
            | none => simp only at hh; exact bound_le hh
            | some u => simp only at hh; exact bound_le hh
        have h3 : l ≤ h := by
          cases lo with
          | none => simp only at hl; cases hl; exact Nat.zero_le _
          | some v => simp only at hl; exact bound_le hl
        exact ⟨h3, h2, h1.1, h1.2⟩
theorem extract_mk (s : List UInt8) (l h : Nat) : (⟨s.toArray⟩ : ByteArray).extract l h = ⟨((s.drop l).take (h - l)).toArray⟩ := by
  apply ByteArray.ext
  rw [ByteArray.data_extract]
  simp [List.extract_eq_take_drop]
theorem addr_add (pl : Pl) (i l : Nat) (n : Nat) (hn : n = pl.sz) : (pl.addr i 0).add (l * n) = pl.addr (i + l) 0 := by
  subst hn
  unfold Addr.add Pl.addr
  split
  · rename_i h
    have : (i + l) * pl.sz = i * pl.sz := by rw [Nat.add_mul]; omega
    rw [this]
  · have : (i + l) * pl.sz = i * pl.sz + l * pl.sz := Nat.add_mul _ _ _
    rw [this]
    simp only [Addr.mk.injEq, and_true, true_and]
    omega
theorem slice_sound {t : TypeId} {x d : DV} {lo hi mx : Option DV} {v : Value} {vl vh vm : Option Value} (h : sliceD P t x lo hi mx = some d) (hx : VR ρ x v) (hl : OptR ρ lo vl) (hh : OptR ρ hi vh) (hm : OptR ρ mx vm) (w : World) :
    ∃ u, (Instr.sliceAt t v vl vh vm).run P w = .ok u w ∧ VR ρ d u := by
  unfold sliceD at h
  split at h
  · rename_i s hu
    split at h
    · cases h
    · simp only [VR] at hx
      subst hx
      simp only [OptR] at hm
      subst hm
      split at h
      · rename_i l hv m hb
        cases h
        refine ⟨.string ⟨((s.drop l).take (hv - l)).toArray⟩, ?_, by simp [VR]⟩
        have hbs := bounds_sound (P := P) (ρ := ρ) false hb hl hh (by rfl : OptR ρ none none) w
        have hsz' : (⟨s.toArray⟩ : ByteArray).size = s.length := by simp [ByteArray.size]
        simp only [Instr.sliceAt, Instr.slice, Sem.run_bind, r_underlying hu, Result.andThen_ok, Option.isSome_none, Bool.false_eq_true, if_false, Sem.run_pure, hsz', hbs, extract_mk]
      · cases h
  · rename_i e p len cap ex hu
    split at h
    case isFalse => cases h
    rename_i hrz
    split at h
    · rename_i l hv m hb
      cases p with
      | none =>
        simp only [VR] at hx
        obtain ⟨rfl, rfl, rfl⟩ := hx
        have hle := bounds_le hb (Nat.le_refl _)
        have hbs := bounds_sound (P := P) true hb hl hh hm w
        obtain ⟨n, hn⟩ : ∃ n, sizeT P e = some n := by
          unfold rowSz at hrz
          split at hrz <;> simp_all
        have e1 : l = 0 := by omega
        have e2 : hv = 0 := by omega
        have e3 : m = 0 := by omega
        subst e1; subst e2; subst e3
        refine ⟨.slice none 0 0, ?_, ?_⟩
        · simp only [Instr.sliceAt, Instr.slice, Sem.run_bind, r_underlying hu, Result.andThen_ok, hbs, r_sizeOf hn, Sem.run_pure]
          simp
        · cases mx <;> (simp only at h; cases h; simp [VR])
      | some p =>
        obtain ⟨b, i, z⟩ := p
        simp only [VR] at hx
        obtain ⟨pl, a, c', hp, hz, rfl, hnc, hcc, hex, htot, ha⟩ := hx
        have hle := bounds_le hb hnc
        have hn : sizeT P e = some pl.sz := by
          unfold rowSz at hrz
          split at hrz <;> simp_all
        have hb' : ∃ m', (Instr.sliceBounds true len c' vl vh vm).run P w = .ok (l, hv, m') w ∧ m ≤ m' ∧ m' ≤ c' ∧ ((mx ≠ none ∨ ex = true) → m' = m) := by
          cases mx with
          | none =>
            have hm' : m = cap := hle.2.2.2 rfl
            have hb2 : boundsD len c' lo hi none = some (l, hv, c') := by
              unfold boundsD at hb ⊢
              simp only at hb ⊢
              cases hi with
              | none =>
                simp only at hb ⊢
                revert hb
                split
                · intro hb; cases hb
                · intro hb; cases hb; rfl
              | some d =>
                simp only at hb ⊢
                have hbd : ∀ q, boundD cap d = some q → boundD c' d = some q := by
                  intro q hq
                  unfold boundD at hq ⊢
                  split at hq
                  · split at hq
                    · rename_i hc; cases hq; rw [if_pos (by omega)]
                    · cases hq
                  · cases hq
                cases hq : boundD cap d with
                | none => rw [hq] at hb; cases hb
                | some q =>
                  rw [hq] at hb
                  rw [hbd q hq]
                  simp only at hb ⊢
                  revert hb
                  split
                  · intro hb; cases hb
                  · intro hb; cases hb; rfl
            refine ⟨c', bounds_sound true hb2 hl hh hm w, by omega, Nat.le_refl _, ?_⟩
            rintro (h1 | h1)
            · exact absurd rfl h1
            · rw [hex h1, hm']
          | some z =>
            have hb2 : boundsD len c' lo hi (some z) = some (l, hv, m) := by
              unfold boundsD at hb ⊢
              simp only at hb ⊢
              have hbd : ∀ q, boundD cap z = some q → boundD c' z = some q := by
                intro q hq
                unfold boundD at hq ⊢
                split at hq
                · split at hq
                  · rename_i hc; cases hq; rw [if_pos (by omega)]
                  · cases hq
                · cases hq
              cases hq : boundD cap z with
              | none => rw [hq] at hb; cases hb
              | some q =>
                rw [hq] at hb
                rw [hbd q hq]
                exact hb
            exact ⟨m, bounds_sound true hb2 hl hh hm w, Nat.le_refl _, by omega, fun _ => rfl⟩
        obtain ⟨m', hbs, h1, h2, h3⟩ := hb'
        refine ⟨.slice (if m' = l then some a else some (a.add (l * pl.sz))) (hv - l) (m' - l), ?_, ?_⟩
        · simp only [Instr.sliceAt, Instr.slice, Sem.run_bind, r_underlying hu, Result.andThen_ok, hbs, r_sizeOf hn, Sem.run_pure, Option.map_some]
        · have key : ∀ ex', ((mx ≠ none ∨ ex = true) ∨ ex' = false) → VR ρ (.sl (some (b, i + l, z)) (hv - l) (m - l) ex') (.slice (if m' = l then some a else some (a.add (l * pl.sz))) (hv - l) (m' - l)) := by
            intro ex' hx'
            simp only [VR]
            refine ⟨pl, (if m' = l then a else a.add (l * pl.sz)), m' - l, hp, hz, by split <;> rfl, by omega, by omega, ?_, by omega, ?_⟩
            · intro hx1
              rcases hx' with hx' | hx'
              · rw [h3 hx']
              · rw [hx'] at hx1; cases hx1
            · by_cases e : m' = l
              · left; omega
              · right
                rw [if_neg e]
                rcases ha with ha | ha
                · omega
                · rw [ha]; exact addr_add _ _ _ _ rfl
          cases mx with
          | none =>
            simp only at h
            cases h
            refine key ex ?_
            cases ex
            · exact .inr rfl
            · exact .inl (.inr rfl)
          | some z => simp only at h; cases h; exact key true (.inl (.inl (by simp)))
    · cases h
  · cases h
end
end Go.Det

/- What the machine does at an operation that neither reads nor writes. -/
namespace Go.Det
set_option linter.unusedVariables false
set_option linter.unusedSimpArgs false
section
variable {P : Program} {ρ : Rho}
theorem size_mk (s : List UInt8) : (⟨s.toArray⟩ : ByteArray).size = s.length := by
  show s.toArray.size = s.length
  simp
theorem fieldAddr_sound {s : TypeId} {x d : DV} {v : Value} {f : Nat} (h : fieldAddrD P s x f = some d) (hx : VR ρ x v) (w : World) : ∃ u, (Instr.fieldAt s v f).run P w = .ok u w ∧ VR ρ d u := by
  unfold fieldAddrD at h
  split at h
  · rename_i fs l i o hu
    split at h
    · rename_i fl hf
      split at h
      · rename_i n hs
        cases h
        simp only [VR] at hx
        obtain ⟨pl, hp, rfl⟩ := hx
        refine ⟨.pointer (some (pl.addr i (o + fl.offset))), ?_, by simp only [VR]; exact ⟨pl, hp, rfl⟩⟩
        have : (pl.addr i o).add fl.offset = pl.addr i (o + fl.offset) := by
          unfold Addr.add Pl.addr
          split
          · rename_i e; rw [e]; rfl
          · simp only [Addr.mk.injEq, and_true, true_and]; omega
        simp [Instr.fieldAt, r_underlying hu, hf, Instr.sureAddr, fieldPlace, r_sizeOf hs, this]
      · cases h
    · cases h
  · cases h
theorem field_sound {s : TypeId} {x d : DV} {v : Value} {f : Nat} (h : fieldD P s x f = some d) (hx : VR ρ x v) (w : World) : ∃ u, (Instr.field s v f).run P w = .ok u w ∧ VR ρ d u := by
  unfold fieldD at h
  split at h
  · rename_i fs cs hu
    split at h
    · rename_i fl hf
      simp only [VR] at hx
      obtain ⟨h1, vs, rfl, hv⟩ := hx
      obtain ⟨u, hr, hu'⟩ := part_sound h hv h1 w
      exact ⟨u, by simp [Instr.field, r_underlying hu, hf, asAgg, hr], hu'⟩
    · cases h
  · cases h
theorem indexAddr_sound {t : TypeId} {x ix d : DV} {v u : Value} (h : indexAddrD P t x ix = some d) (hx : VR ρ x v) (hi : VR ρ ix u) (w : World) : ∃ r, (Instr.indexAt t v u).run P w = .ok r w ∧ VR ρ d r := by
  unfold indexAddrD at h
  split at h
  · rename_i e l i z len _ _ k n hu
    split at h
    · rename_i hc
      obtain ⟨hs, h0, h1⟩ := hc
      cases h
      simp only [VR] at hx hi
      subst hi
      obtain ⟨pl, a, c', hp, hz, rfl, hnc, hcc, hex, htot, ha⟩ := hx
      have ha' : a = pl.addr i 0 := by
        rcases ha with ha | ha
        · exfalso; omega
        · exact ha
      subst ha'
      refine ⟨.pointer (some (pl.addr (i + n.toNat) 0)), ?_, by simp only [VR]; exact ⟨pl, hp, rfl⟩⟩
      have := addr_add pl i n.toNat z hz.symm
      simp [Instr.indexAt, asIntOf, r_underlying hu, h0, h1, r_sizeOf hs, this]
    · cases h
  · rename_i len e l i o k n hu
    split at h
    · rename_i s hs
      split at h
      · rename_i hc
        cases h
        simp only [VR] at hx hi
        subst hi
        obtain ⟨pl, hp, rfl⟩ := hx
        refine ⟨.pointer (some (pl.addr i (o + n.toNat * s))), ?_, by simp only [VR]; exact ⟨pl, hp, rfl⟩⟩
        have : (pl.addr i o).add (n.toNat * s) = pl.addr i (o + n.toNat * s) := by
          unfold Addr.add Pl.addr
          split
          · rename_i e; rw [e]; rfl
          · simp only [Addr.mk.injEq, and_true, true_and]; omega
        simp [Instr.indexAt, asIntOf, r_underlying hu, hc, r_sizeOf hs, this, Instr.sureAddr]
      · cases h
    · cases h
  · cases h
theorem index_sound {t : TypeId} {x ix d : DV} {v u : Value} (h : indexD P t x ix = some d) (hx : VR ρ x v) (hi : VR ρ ix u) (w : World) : ∃ r, (Instr.index t v u).run P w = .ok r w ∧ VR ρ d r := by
  unfold indexD at h
  split at h
  · rename_i len e cs k n hu
    split at h
    · rename_i s hs
      split at h
      · rename_i hc
        simp only [VR] at hx hi
        subst hi
        obtain ⟨h1, vs, rfl, hv⟩ := hx
        obtain ⟨r, hr, hr'⟩ := part_sound h hv h1 w
        exact ⟨r, by simp [Instr.index, asIntOf, r_underlying hu, hc, r_sizeOf hs, hr], hr'⟩
      · cases h
    · cases h
  · rename_i s k n hu
    split at h
    · rename_i h0
      cases hb : s[n.toNat]? with
      | none => rw [hb] at h; cases h
      | some b =>
        rw [hb] at h
        cases h
        simp only [VR] at hx hi
        subst hi; subst hx
        refine ⟨_, ?_, VR_int _ _⟩
        have hb' : (⟨s.toArray⟩ : ByteArray)[n.toNat]? = some b := by
          have : n.toNat < s.length := (List.getElem?_eq_some_iff.mp hb).1
          have h2 : n.toNat < (⟨s.toArray⟩ : ByteArray).size := by rw [size_mk]; exact this
          rw [getElem?_pos (⟨s.toArray⟩ : ByteArray) n.toNat h2]
          have : (⟨s.toArray⟩ : ByteArray)[n.toNat] = s[n.toNat] := by
            show s.toArray[n.toNat] = _
            simp
          rw [this, ← hb, List.getElem?_eq_getElem]
        simp [Instr.index, asIntOf, r_underlying hu, h0, hb']
    · cases h
  · cases h
theorem conv_sound {s t : TypeId} {x d : DV} {v : Value} (h : convPure P s t x = some d) (hx : VR ρ x v) (w : World) : ∃ r, (convert s t v).run P w = .ok r w ∧ VR ρ d r := by
  unfold convPure at h
  split at h
  · rename_i ds k j n hs ht
    cases h
    simp only [VR] at hx
    subst hx
    exact ⟨_, by simp [convert, r_underlying hs, r_underlying ht, Conv.intToInt], VR_int _ _⟩
  · rename_i ds k n hs ht
    cases h
    simp only [VR] at hx
    subst hx
    refine ⟨.string (Utf8.encode n), by simp [convert, r_underlying hs, r_underlying ht, Conv.intToString], ?_⟩
    simp only [VR]
  · rename_i ds a hs ht
    cases h
    simp only [VR] at hx
    subst hx
    exact ⟨_, by simp [convert, r_underlying hs, r_underlying ht], VR_str _⟩
  · cases h
theorem assert_sound {x d : DV} {v : Value} {xt at_ : TypeId} {ok : Bool} (h : assertD P x xt at_ ok = some d) (hx : VR ρ x v) (w : World) : ∃ r, (Instr.typeAssert v xt at_ ok).run P w = .ok r w ∧ VR ρ d r := by
  have tup : ∀ {a b : DV} {x y : Value}, VR ρ a x → VR ρ b y → VR ρ (.tuple [a, b]) (.tuple #[x, y]) := by
    intro a b x y h1 h2
    simp only [VR]
    exact ⟨_, rfl, .cons h1 (.one h2)⟩
  unfold assertD at h
  split at h
  · cases h
  · rename_i td hni hu
    simp only [VR] at hx
    subst hx
    split at h
    · rename_i hok
      cases hz : zeroT P at_ with
      | none => rw [hz] at h; cases h
      | some z =>
        rw [hz] at h; cases h
        obtain ⟨zv, hzr, hzv⟩ := r_zero hz ρ w
        refine ⟨.tuple #[zv, .bool false], ?_, tup hzv (VR_bool _)⟩
        cases td <;> simp_all [Instr.typeAssert, r_underlying hu]
    · cases h
  · rename_i td t v' hni hu
    simp only [VR] at hx
    obtain ⟨y, rfl, hy⟩ := hx
    split at h
    · rename_i e
      subst e
      cases h
      cases ok
      · refine ⟨y, ?_, hy⟩
        cases td <;> simp_all [Instr.typeAssert, r_underlying hu]
      · refine ⟨.tuple #[y, .bool true], ?_, tup hy (VR_bool _)⟩
        cases td <;> simp_all [Instr.typeAssert, r_underlying hu]
    · rename_i e
      split at h
      · rename_i hok
        cases hz : zeroT P at_ with
        | none => rw [hz] at h; cases h
        | some z =>
          rw [hz] at h; cases h
          obtain ⟨zv, hzr, hzv⟩ := r_zero hz ρ w
          refine ⟨.tuple #[zv, .bool false], ?_, tup hzv (VR_bool _)⟩
          cases td <;> simp_all [Instr.typeAssert, r_underlying hu]
      · cases h
  · cases h
theorem len_sound {t : TypeId} {x d : DV} {v : Value} (h : lenD P t x = some d) (hx : VR ρ x v) (ty : TypeId) (w : World) : ∃ r, (Builtin.len_ #[t] ty #[v]).run P w = .ok r w ∧ VR ρ d r := by
  unfold lenD at h
  split at h
  · rename_i s hu
    cases h
    simp only [VR] at hx
    subst hx
    exact ⟨_, by simp [Builtin.len_, r_underlying hu, goInt, size_mk], VR_int _ _⟩
  · rename_i n _ hu
    cases h
    exact ⟨_, by simp [Builtin.len_, r_underlying hu, goInt], VR_int _ _⟩
  · rename_i p n c ex hu
    cases h
    cases p with
    | none => simp only [VR] at hx; obtain ⟨rfl, rfl, rfl⟩ := hx; exact ⟨_, by simp [Builtin.len_, r_underlying ‹_›, goInt], VR_int _ _⟩
    | some p =>
      obtain ⟨l, i, z⟩ := p
      simp only [VR] at hx
      obtain ⟨pl, a, c', hp, hz, rfl, _⟩ := hx
      exact ⟨_, by simp [Builtin.len_, r_underlying ‹_›, goInt], VR_int _ _⟩
  · cases h
theorem fold_sound {f : DV → DV → Option DV} {g : Value → Value → Sem Value} (hf : ∀ {x y d : DV} {u v : Value} (w : World), f x y = some d → VR ρ x u → VR ρ y v → ∃ r, (g u v).run P w = .ok r w ∧ VR ρ d r) (w : World) :
    ∀ {ys : List DV} {x d : DV} {u : Value} {vs : List Value}, foldD f x ys = some d → VR ρ x u → VRs ρ ys vs → ∃ r, (vs.foldlM g u).run P w = .ok r w ∧ VR ρ d r
  | [], x, d, u, vs, h, hx, hv => by
    simp only [foldD] at h; cases h
    simp only [VRs] at hv; subst hv
    exact ⟨u, by simp, hx⟩
  | y :: ys, x, d, u, vs, h, hx, hv => by
    simp only [foldD] at h
    simp only [VRs] at hv
    obtain ⟨v, r, rfl, hy, hr⟩ := hv
    split at h
    · rename_i z hz
      obtain ⟨q, hq, hzq⟩ := hf w hz hx hy
      obtain ⟨q', hq', hd⟩ := fold_sound hf w h hzq hr
      exact ⟨q', by simp only [List.foldlM_cons, Sem.run_bind, hq, Result.andThen_ok, hq'], hd⟩
    · cases h
theorem max2_sound {x y d : DV} {u v : Value} (w : World) (h : max2D x y = some d) (hx : VR ρ x u) (hy : VR ρ y v) : ∃ r, (Builtin.max2 u v).run P w = .ok r w ∧ VR ρ d r := by
  unfold max2D at h
  split at h
  · cases h; simp only [VR] at hx hy; subst hx; subst hy; exact ⟨_, by simp [Builtin.max2], VR_int _ _⟩
  · cases h
theorem min2_sound {x y d : DV} {u v : Value} (w : World) (h : min2D x y = some d) (hx : VR ρ x u) (hy : VR ρ y v) : ∃ r, (Builtin.min2 u v).run P w = .ok r w ∧ VR ρ d r := by
  unfold min2D at h
  split at h
  · cases h; simp only [VR] at hx hy; subst hx; subst hy; exact ⟨_, by simp [Builtin.min2], VR_int _ _⟩
  · cases h
theorem pure_sound {o : Oper} {ev : Ev} {d : DV} (h : pureD P o ev = some d) {e : Operand → Value} (he : EvR ρ ev e) (w : World) :
    ∃ v, (execOp e o).run P w = .ok (.value v) w ∧ VR ρ d v := by
  obtain ⟨dst, op, type, pos, after, guard⟩ := o
  unfold pureD at h
  simp only at h
  split at h
  · exact ⟨_, rfl, he _ _ h⟩
  · exact ⟨_, rfl, he _ _ h⟩
  · rename_i c a b
    split at h
    · rename_i t hc
      have hc' := he _ _ hc
      simp only [VR] at hc'
      cases t
      · exact ⟨e b, by simp [execOp, hc', asBool], he _ _ h⟩
      · exact ⟨e a, by simp [execOp, hc', asBool], he _ _ h⟩
    · cases h
  · rename_i t parts
    split at h
    · rename_i ps hps
      have hv := evParts_sound he hps
      obtain ⟨v, hr, hd⟩ := build_sound (vs := parts.map fun (i, x) => (i, e x)) h (by simpa using hv) w
      exact ⟨v, by simp only [execOp, Sem.run_bind, hr, Result.andThen_ok, Sem.run_pure], hd⟩
    · cases h
  · rename_i x
    split at h
    · rename_i p hx
      cases h
      have hx' := he _ _ hx
      have hx2 := hx'
      obtain ⟨l, i, o⟩ := p
      simp only [VR] at hx2
      obtain ⟨pl, hp, hv⟩ := hx2
      exact ⟨e x, by simp [execOp, hv], hx'⟩
    · rename_i t v hx
      cases h
      have hx' := he _ _ hx
      have hx2 := hx'
      simp only [VR] at hx2
      obtain ⟨y, hv, _⟩ := hx2
      exact ⟨e x, by simp [execOp, hv], hx'⟩
    · rename_i f a c hx
      cases h
      have hx' := he _ _ hx
      have hx2 := hx'
      simp only [VR] at hx2
      obtain ⟨_, _, hv, _⟩ := hx2
      exact ⟨e x, by simp [execOp, hv], hx'⟩
    · cases h
  · rename_i op t x y yt
    split at h
    · rename_i a b ha hb
      obtain ⟨v, hr, hd⟩ := bin_sound h (he _ _ ha) (he _ _ hb) x y w
      exact ⟨v, by simp only [execOp]; rw [Sem.run_bind, hr]; rfl, hd⟩
    · cases h
  · rename_i op t x
    split at h
    · rename_i a ha
      obtain ⟨v, hr, hd⟩ := un_sound (P := P) h (he _ _ ha) w
      exact ⟨v, by simp only [execOp, Sem.run_bind, hr, Result.andThen_ok, Sem.run_pure], hd⟩
    · cases h
  · rename_i s t x
    split at h
    · rename_i a ha
      obtain ⟨v, hr, hd⟩ := conv_sound h (he _ _ ha) w
      exact ⟨v, by simp only [execOp, Sem.run_bind, hr, Result.andThen_ok, Sem.run_pure], hd⟩
    · cases h
  · rename_i t x
    split at h
    · cases h
    · rename_i td a hni hu ha
      cases h
      refine ⟨.iface t (e x), ?_, by simp only [VR]; exact ⟨_, rfl, he _ _ ha⟩⟩
      cases td <;> simp_all [execOp, Instr.makeInterface, r_underlying hu]
    · cases h
  · rename_i fn first captured
    split at h
    · rename_i a c ha hc
      cases h
      refine ⟨.func fn (first.map e) (captured.map e), by simp [execOp, Instr.makeFunc], ?_⟩
      simp only [VR]
      exact ⟨_, _, rfl, by simpa using evs_sound he ha, by simpa using evs_sound he hc⟩
    · cases h
  · rename_i t x lo hi mx
    split at h
    · rename_i a l hh m ha hl hhi hm
      obtain ⟨v, hr, hd⟩ := slice_sound h (he _ _ ha) (evOpt_sound he hl) (evOpt_sound he hhi) (evOpt_sound he hm) w
      exact ⟨v, by simp only [execOp, Sem.run_bind, hr, Result.andThen_ok, Sem.run_pure], hd⟩
    · cases h
  · rename_i s x f
    split at h
    · rename_i a ha
      obtain ⟨v, hr, hd⟩ := fieldAddr_sound h (he _ _ ha) w
      exact ⟨v, by simp only [execOp, Sem.run_bind, hr, Result.andThen_ok, Sem.run_pure], hd⟩
    · cases h
  · rename_i s x f
    split at h
    · rename_i a ha
      obtain ⟨v, hr, hd⟩ := field_sound h (he _ _ ha) w
      exact ⟨v, by simp only [execOp, Sem.run_bind, hr, Result.andThen_ok, Sem.run_pure], hd⟩
    · cases h
  · rename_i t x ix
    split at h
    · rename_i a i ha hi
      obtain ⟨v, hr, hd⟩ := indexAddr_sound h (he _ _ ha) (he _ _ hi) w
      exact ⟨v, by simp only [execOp, Sem.run_bind, hr, Result.andThen_ok, Sem.run_pure], hd⟩
    · cases h
  · rename_i t x ix
    split at h
    · rename_i a i ha hi
      obtain ⟨v, hr, hd⟩ := index_sound h (he _ _ ha) (he _ _ hi) w
      exact ⟨v, by simp only [execOp, Sem.run_bind, hr, Result.andThen_ok, Sem.run_pure], hd⟩
    · cases h
  · rename_i x xt at_ ok
    split at h
    · rename_i a ha
      obtain ⟨v, hr, hd⟩ := assert_sound h (he _ _ ha) w
      exact ⟨v, by simp only [execOp, Sem.run_bind, hr, Result.andThen_ok, Sem.run_pure], hd⟩
    · cases h
  · rename_i t i
    split at h
    · rename_i vs hvs
      have hv := he _ _ hvs
      simp only [VR] at hv
      obtain ⟨us, hu, hr⟩ := hv
      obtain ⟨y, hy, hd⟩ := VRs.get i hr h
      rw [Array.getElem?_toList] at hy
      exact ⟨y, by simp [execOp, Instr.extract, hu, hy], hd⟩
    · cases h
  · rename_i args argTypes
    obtain ⟨args⟩ := args
    obtain ⟨argTypes⟩ := argTypes
    simp only at h
    split at h
    · rename_i x t
      split at h
      · rename_i a ha
        obtain ⟨v, hr, hd⟩ := len_sound h (he _ _ ha) type w
        refine ⟨v, ?_, hd⟩
        simp [execOp, resolve, invoke, builtin, hr]
      · cases h
    · cases h
  · rename_i args argTypes
    obtain ⟨args⟩ := args
    simp only at h
    split at h
    · rename_i x r hx
      have hv := evs_sound he hx
      simp only [VRs] at hv
      obtain ⟨u, us, hu, h1, h2⟩ := hv
      obtain ⟨q, hq, hd⟩ := fold_sound (P := P) (g := Builtin.max2) (fun w => max2_sound w) w h h1 h2
      refine ⟨q, ?_, hd⟩
      simp only [execOp, resolve, Sem.run_bind, Sem.run_pure, Result.andThen_ok, invoke, builtin, Builtin.max_]
      simp [hu, hq]
    · cases h
  · rename_i args argTypes
    obtain ⟨args⟩ := args
    simp only at h
    split at h
    · rename_i x r hx
      have hv := evs_sound he hx
      simp only [VRs] at hv
      obtain ⟨u, us, hu, h1, h2⟩ := hv
      obtain ⟨q, hq, hd⟩ := fold_sound (P := P) (g := Builtin.min2) (fun w => min2_sound w) w h h1 h2
      refine ⟨q, ?_, hd⟩
      simp only [execOp, resolve, Sem.run_bind, Sem.run_pure, Result.andThen_ok, invoke, builtin, Builtin.min_]
      simp [hu, hq]
    · cases h
  · cases h
end
end Go.Det
