/- The operations that make memory, or write. -/
import Derived.IntWalk
import Derived.Test.YtlmjhpnmfmnmgaaDoorCovT3
namespace Go.Det
set_option linter.unusedVariables false
set_option linter.unusedSimpArgs false
section
variable {P : Program} {ρ : Rho}
/-- A row of cells made: it stands for rows. -/
theorem obj_new {c : Array Value} {t : TypeId} {fr : Nat × Nat} {sz tot b : Nat} {rs : List (List DV)} (hr : ∀ r ∈ rs, r.length = sz) (h1 : rs.flatten.all DV.one = true) (hv : VRs ρ rs.flatten (c.toList.take (rs.length * sz)))
    (ht : rs.length ≤ tot) (hc : tot * sz ≤ c.size) (hf : ∀ k, k < c.size → ¬ (fr.1 ≤ k ∧ k < fr.2)) : ObjR ρ ⟨b, 0, sz, tot⟩ (some (.cells c t fr)) (.rows false sz rs) := by
  refine ⟨rfl, ht, fun i r hir => ⟨hr r (List.mem_of_getElem? hir), fun j d hd => ?_⟩, fun _ => ⟨c, t, fr.1, fr.2, rfl, by simpa using hc, fun k hk => hf k (by simp at hk; omega)⟩⟩
  have hj : j < sz := by rw [← hr r (List.mem_of_getElem? hir)]; exact (List.getElem?_eq_some_iff.mp hd).1
  have hg : rs.flatten[i * sz + j]? = some d := by rw [flatten_get hr i j hj, hir]; exact hd
  obtain ⟨y, hy, hyr⟩ := VRs.get _ hv hg
  refine ⟨all_get h1 hg, y, ?_, hyr⟩
  rw [List.getElem?_take] at hy
  split at hy
  · simp only [cellAt]
    rw [Array.getElem?_toList] at hy
    simpa using hy
  · cases hy
theorem moves_rows {H : DH} {w : World} (ha : Agree ρ H w) {c : Array Value} {t : TypeId} {sz tot : Nat} {rs : List (List DV)} (hr : ∀ r ∈ rs, r.length = sz) (h1 : rs.flatten.all DV.one = true) (hv : VRs ρ rs.flatten (c.toList.take (rs.length * sz)))
    (ht : rs.length ≤ tot) (hc : tot * sz ≤ c.size) : Moves ρ H w (ρ.add H.next ⟨w.heap.size, 0, sz, tot⟩) (H.new (.rows false sz rs)) { w with heap := w.heap.push (.cells c t (0, 0)) } :=
  moves_new ha _ _ ⟨w.heap.size, 0, sz, tot⟩ rfl (obj_new hr h1 (VRs.mono (Rho.le_add ha _) _ _ hv) ht hc (by intro k _; simp))
theorem newVar_sound {H H' : DH} {w : World} (ha : Agree ρ H w) {d r : DV} {v : Value} (h : newVarD H d = some (r, H')) (hv : VR ρ d v) (t : TypeId) :
    ∃ a w' ρ', (newVar t v).run P w = .ok a w' ∧ VR ρ' r (.pointer (some a)) ∧ Moves ρ H w ρ' H' w' := by
  unfold newVarD at h
  split at h
  · rename_i h1
    cases h
    have hc := VR.cells hv
    have hm := moves_rows ha (c := v.cells) (t := t) (sz := d.cells.length) (tot := 1) (rs := [d.cells]) (by simp) (by simpa using h1) (by
      have hl := VRs.length hc
      simp only [List.flatten_cons, List.flatten_nil, List.append_nil, List.length_cons, List.length_nil, Nat.zero_add, Nat.one_mul]
      rw [← hl, List.take_length]; exact hc) (by simp) (by have := VRs.length hc; simp at this; omega)
    refine ⟨⟨w.heap.size, 0, none⟩, _, _, rfl, ?_, hm⟩
    simp only [VR]
    exact ⟨_, Rho.add_same _ _ _, by simp [Pl.addr]⟩
  · cases h
theorem zero_cells {zd : List DV} {zc : Array Value} (hz : VRs ρ zd zc.toList) {sz : Nat} (hs : zd.length = sz + 1) (n : Nat) : VRs ρ (List.replicate n zd).flatten ((Array.range (n * (sz + 1))).map (zc[· % zc.size]!)).toList := by
  have hl := VRs.length hz
  simp only [Array.length_toList] at hl
  have hr : ∀ r ∈ List.replicate n zd, r.length = sz + 1 := by intro r hr; rw [(List.mem_replicate.mp hr).2]; exact hs
  refine VRs.of_get ?_ fun k x y hx hy => ?_
  · simp only [Array.toList_map, List.length_map, Array.toList_range, List.length_range]
    rw [flatten_len hr, List.length_replicate]
  · have hk : k < n * (sz + 1) := by
      have := (List.getElem?_eq_some_iff.mp hx).1
      rwa [flatten_len hr, List.length_replicate] at this
    have e : k = (k / (sz + 1)) * (sz + 1) + k % (sz + 1) := by rw [Nat.mul_comm]; exact (Nat.div_add_mod k (sz + 1)).symm
    have hm : k % (sz + 1) < sz + 1 := Nat.mod_lt _ (by omega)
    rw [e, flatten_get hr _ _ hm] at hx
    have hdiv : k / (sz + 1) < n := (Nat.div_lt_iff_lt_mul (by omega)).mpr hk
    rw [List.getElem?_replicate, if_pos hdiv] at hx
    simp only [Option.bind_some] at hx
    obtain ⟨y', hy', hr'⟩ := VRs.get _ hz hx
    simp only [Array.toList_map, Array.toList_range, List.getElem?_map, List.getElem?_range hk, Option.map_some, Option.some.injEq] at hy
    rw [Array.getElem?_toList] at hy'
    have : zc[k % zc.size]! = y' := by
      rw [hl, hs]
      rw [getElem!_def, hy']
    rw [← hy, this]
    exact hr'
theorem wrap_small {n : Int} (h0 : 0 ≤ n) (h1 : n ≤ 2147483648) : IntKind.i64.wrap n = n := IntWalk.i64_in n ⟨by omega, by omega⟩
/-- An operation that made or wrote: what it comes to. -/
def Made (P : Program) (ρ : Rho) (H : DH) (w : World) (s : Sem Value) (d : DV) (H' : DH) : Prop :=
  ∃ v w' ρ', s.run P w = .ok v w' ∧ VR ρ' d v ∧ Moves ρ H w ρ' H' w'
theorem box_sound {H H' : DH} {w : World} (ha : Agree ρ H w) {d r : DV} {v : Value} (h : newVarD H d = some (r, H')) (hv : VR ρ d v) (t : TypeId) : Made P ρ H w (Instr.box t v) r H' := by
  obtain ⟨a, w', ρ', h1, h2, h3⟩ := newVar_sound (P := P) ha h hv t
  exact ⟨_, w', ρ', by simp [Instr.box, h1], h2, h3⟩
theorem newBld_sound {H H' : DH} {w : World} (ha : Agree ρ H w) {d r : DV} {v : Value} (h : newBldD H d = some (r, H')) (hv : VR ρ d v) :
    ∃ a w' ρ', (newVar bldT v).run P w = .ok a w' ∧ VR ρ' r (.pointer (some a)) ∧ Moves ρ H w ρ' H' w' := by
  unfold newBldD at h
  split at h
  · cases h
    simp only [VR, VRs] at hv
    obtain ⟨_, vs, rfl, v1, r1, h1, rfl, v2, r2, h2, ⟨_, _, rfl⟩, rfl⟩ := hv
    subst h2
    have e : vs = #[.pointer none, .slice none 0 0] := by
      apply Array.ext'
      rw [h1]
    subst e
    have hm := moves_new ha (.cells #[.pointer none, .slice none 0 0] bldT (0, 0)) (.lib (.bld false none 0)) ⟨w.heap.size, 0, 2, 1⟩ rfl ⟨rfl, _, rfl, rfl, rfl⟩
    refine ⟨⟨w.heap.size, 0, none⟩, _, _, rfl, ?_, hm⟩
    simp only [VR]
    exact ⟨_, Rho.add_same _ _ _, by simp [Pl.addr]⟩
  · cases h
theorem alloc_sound {H H' : DH} {w : World} (ha : Agree ρ H w) {e : TypeId} {z r : DV} (hz : zeroT P e = some z) (h : allocD e H z = some (r, H')) : Made P ρ H w (Instr.alloc e true (.tuple #[])) r H' := by
  obtain ⟨zv, hzr, hzv⟩ := r_zero hz ρ w
  unfold allocD at h
  split at h
  · rename_i he
    obtain rfl : e = bldT := eq_of_beq he
    obtain ⟨a, w', ρ', h1, h2, h3⟩ := newBld_sound (P := P) ha h hzv
    exact ⟨_, w', ρ', by simp [Instr.alloc, hzr, h1], h2, h3⟩
  obtain ⟨a, w', ρ', h1, h2, h3⟩ := newVar_sound (P := P) ha h hzv e
  exact ⟨_, w', ρ', by simp [Instr.alloc, hzr, h1], h2, h3⟩
theorem splice_flat {rs : List (List DV)} {sz i : Nat} {vs : List DV} (hr : ∀ r ∈ rs, r.length = sz) (hi : i < rs.length) (hv : vs.length = sz) : (rs.set i vs).flatten = splice rs.flatten (i * sz) vs := by
  induction rs generalizing i with
  | nil => simp at hi
  | cons r rs ih =>
    have hrl := hr r (by simp)
    have hfl := flatten_len (fun r' hr' => hr r' (by simp [hr']) : ∀ r' ∈ rs, r'.length = sz)
    cases i with
    | zero =>
      simp only [List.set_cons_zero, List.flatten_cons, Nat.zero_mul, splice, List.take_zero, List.nil_append, Nat.zero_add]
      rw [List.drop_append_of_le_length (by omega), List.drop_eq_nil_of_le (by omega), List.nil_append]
    | succ i =>
      simp only [List.set_cons_succ, List.flatten_cons]
      rw [ih (fun r' hr' => hr r' (by simp [hr'])) (by simpa using hi)]
      unfold splice
      have e1 : (i + 1) * sz = r.length + i * sz := by rw [hrl, Nat.add_mul]; omega
      rw [e1, List.take_length_add_append, List.append_assoc]
      congr 2
      rw [Nat.add_assoc, List.drop_length_add_append]
theorem set_len {rs : List (List DV)} {sz i : Nat} {vs : List DV} (hr : ∀ r ∈ rs, r.length = sz) (hv : vs.length = sz) : ∀ r ∈ rs.set i vs, r.length = sz := by
  intro r hm
  rcases List.mem_or_eq_of_mem_set hm with h | h
  · exact hr r h
  · rw [h]; exact hv
theorem flat_all {rs : List (List DV)} : rs.flatten.all DV.one = rs.all (fun r => r.all DV.one) := by
  induction rs with
  | nil => rfl
  | cons r rs ih => simp [List.all_append, ih]
theorem buildRows_sound {sz : Nat} : ∀ {parts : List (Nat × DV)} {vs : List (Nat × Value)} {rs rs' : List (List DV)} {cells : Array Value}, buildRows sz rs parts = some rs' → PartsR ρ parts vs → (∀ r ∈ rs, r.length = sz) → VRs ρ rs.flatten cells.toList → rs.flatten.all DV.one = true →
    ∃ cells', Instr.fill (fun i => some (i * sz, sz)) cells vs = some cells' ∧ VRs ρ rs'.flatten cells'.toList ∧ rs'.flatten.all DV.one = true ∧ (∀ r ∈ rs', r.length = sz) ∧ rs'.length = rs.length
  | [], _, rs, rs', cells, h, hv, hr, hc, h1 => by
    simp only [PartsR] at hv
    subst hv
    simp only [buildRows] at h
    cases h
    exact ⟨cells, rfl, hc, h1, hr, rfl⟩
  | (i, d) :: ps, _, rs, rs', cells, h, hv, hr, hc, h1 => by
    simp only [PartsR] at hv
    obtain ⟨v, r, rfl, hd, hps⟩ := hv
    simp only [buildRows] at h
    split at h
    · rename_i hcond
      obtain ⟨hi, hs, hall⟩ := hcond
      have hdc := VR.cells hd
      have hl1 := VRs.length hdc
      have hl2 := VRs.length hc
      have hfl := flatten_len hr
      simp only [Array.length_toList] at hl1 hl2
      have hle : i * sz + sz ≤ rs.length * sz := by
        have := Nat.mul_le_mul_right sz (show i + 1 ≤ rs.length from hi)
        rw [Nat.add_mul] at this; omega
      have hsp := splice_sound hc hdc (i * sz) (by omega)
      rw [← splice_flat hr hi hs] at hsp
      have hall' : (rs.set i d.cells).flatten.all DV.one = true := by
        rw [splice_flat hr hi hs]
        exact splice_all _ h1 hall
      obtain ⟨cells', hf, h2, h3, h4, h5⟩ := buildRows_sound h hps (set_len hr hs) hsp hall'
      refine ⟨cells', ?_, h2, h3, h4, by simpa using h5⟩
      simp only [Instr.fill]
      have hn : ¬ ((decide (v.cells.size ≠ sz) || decide (i * sz + v.cells.size > cells.size)) = true) := by simp; omega
      rw [if_neg hn]
      exact hf
    · cases h
theorem buildSlice_sound {H H' : DH} {w : World} (ha : Agree ρ H w) {t : TypeId} {n : Nat} {ps : List (Nat × DV)} {vs : Array (Nat × Value)} {d : DV} (h : buildSliceD P t n H ps = some (d, H')) (hv : PartsR ρ ps vs.toList) : Made P ρ H w (Instr.buildSlice t n vs) d H' := by
  unfold buildSliceD at h
  split at h
  · rename_i e hu
    split at h
    · rename_i z sz hz hs
      split at h
      · rename_i hc
        obtain ⟨hzl, hz1, hlim⟩ := hc
        cases hb : buildRows (sz + 1) (zerosD z.cells n) ps with
        | none => rw [hb] at h; cases h
        | some rs =>
          rw [hb] at h
          cases h
          obtain ⟨zv, hzr, hzv⟩ := r_zero hz ρ w
          have hzc := zero_cells (VR.cells hzv) hzl n
          have hrl : ∀ r ∈ zerosD z.cells n, r.length = sz + 1 := by intro r hr; rw [(List.mem_replicate.mp hr).2]; exact hzl
          obtain ⟨cells', hf, h2, h3, h4, h5⟩ := buildRows_sound hb hv hrl hzc (by
            rw [flat_all, List.all_eq_true]; intro r hr; rw [(List.mem_replicate.mp hr).2]; exact hz1)
          have hlen : rs.length = n := by rw [h5]; simp [zerosD]
          have hcl : cells'.size = n * (sz + 1) := by
            have := VRs.length h2
            rw [flatten_len h4, hlen] at this
            simpa using this
          have hm := moves_rows ha (c := cells') (t := e) (sz := sz + 1) (tot := n) h4 h3 (by
            rw [hlen, ← hcl]
            have : cells'.toList.take cells'.size = cells'.toList := by rw [← Array.length_toList, List.take_length]
            rw [this]; exact h2) (by omega) (by omega)
          refine ⟨.slice (some ⟨w.heap.size, 0, none⟩) n n, _, _, ?_, ?_, hm⟩
          · replace hs : sizeT P e = some (sz + 1) := hs
            have hnot : ¬ (n * (sz + 1) > 2 ^ 24) := by omega
            simp only [Instr.buildSlice, Sem.run_bind, r_underlying hu, Result.andThen_ok, r_sizeOf hs]
            rw [if_neg hnot]
            by_cases hn0 : n * (sz + 1) = 0
            · have r0 : Array.range 0 = (#[] : Array Nat) := by apply Array.ext'; simp
              rw [hn0, r0] at hf
              simp only [Array.map_empty] at hf
              simp [hn0, hf, newRow, r0]
            · simp [hn0, hzr, hf, newRow]
          · simp only [VR]
            exact ⟨_, _, _, Rho.add_same _ _ _, rfl, rfl, Nat.le_refl _, Nat.le_refl _, fun _ => rfl, by simp, .inr (by simp [Pl.addr])⟩
      · cases h
    · cases h
  · cases h
end
end Go.Det

/- Stores, new slices and maps, iterators, strings as bytes. -/
namespace Go.Det
set_option linter.unusedVariables false
set_option linter.unusedSimpArgs false
section
variable {P : Program} {ρ : Rho}
theorem Agree.rows_sz {H : DH} {w : World} (ha : Agree ρ H w) {l : Nat} {ro : Bool} {sz : Nat} {rs : List (List DV)} (ho : H.obj l = some (.rows ro sz rs)) {pl : Pl} (hp : ρ l = some pl) :
    pl.sz = sz ∧ rs.length ≤ pl.tot ∧ (∀ (i : Nat) (r : List DV), rs[i]? = some r → r.length = sz) ∧ ObjR ρ pl w.heap[pl.block]? (.rows ro sz rs) := by
  obtain ⟨pl', hp', h⟩ := ha.obj l _ ho
  rw [hp] at hp'
  cases hp'
  exact ⟨h.1, h.2.1, fun i r hr => (h.2.2.1 i r hr).1, h⟩
theorem store_sound {H H' : DH} {w : World} (ha : Agree ρ H w) {t : TypeId} {x y : DV} {a v : Value} (h : storeD P t H x y = some H') (hx : VR ρ x a) (hy : VR ρ y v) :
    ∃ w', (Instr.storeAt t a v).run P w = .ok () w' ∧ Moves ρ H w ρ H' w' := by
  unfold storeD at h
  split at h
  · rename_i l i o n hs
    split at h
    · rename_i sz rs ho
      split at h
      · rename_i hn
        cases hset : setRow rs i o y.cells with
        | none => rw [hset] at h; cases h
        | some rs' =>
          rw [hset] at h
          cases h
          simp only [VR] at hx
          obtain ⟨pl, hp, rfl⟩ := hx
          obtain ⟨h1, h2, h3, h4⟩ := ha.rows_sz ho hp
          obtain ⟨hpat, hlen, hi, hle, hall⟩ := patched_row h3 hset
          have hyc := VR.cells hy
          have hyl := VRs.length hyc
          have hb : i * sz + o + y.cells.length ≤ pl.tot * sz := by
            have : (i + 1) * sz ≤ pl.tot * sz := Nat.mul_le_mul_right _ (by omega)
            rw [Nat.add_mul] at this
            omega
          obtain ⟨hrun, hobj⟩ := obj_write (P := P) h4 hpat (by omega) hb hyc hall
          have hadr : pl.addr i o = ⟨pl.block, pl.off + (i * sz + o), none⟩ := by unfold Pl.addr; rw [h1]; simp only [Addr.mk.injEq, and_true, true_and]; omega
          refine ⟨_, ?_, moves_set ha ho rfl rfl hp (setCells_one _ _ _ _) hobj⟩
          have hsz : v.cells.size = n := by simp at hyl; omega
          simp only [Instr.storeAt, Instr.sureAddr, Sem.run_bind, Sem.run_pure, Result.andThen_ok, storeVar, r_sizeOf hs]
          rw [if_neg (by simpa using hsz), hadr]
          exact hrun
      · cases h
    · cases h
  · cases h
theorem makeSlice_sound {H H' : DH} {w : World} (ha : Agree ρ H w) {t : TypeId} {x y d : DV} {vl vc : Value} (h : makeSliceD P t H x y = some (d, H')) (hx : VR ρ x vl) (hy : VR ρ y vc) : Made P ρ H w (Instr.makeSlice t vl vc) d H' := by
  unfold makeSliceD at h
  split at h
  · rename_i e k l j c hu
    split at h
    · rename_i z sz by_ hz hs hby
      split at h
      · rename_i hc
        obtain ⟨h0, hlc, hcm, hb, hzl, hz1⟩ := hc
        cases h
        simp only [VR] at hx hy
        subst hx; subst hy
        have hcm' : c ≤ 2147483648 := by simpa [mostD] using hcm
        obtain ⟨zv, hzr, hzv⟩ := r_zero hz ρ w
        replace hs : sizeT P e = some (sz + 1) := hs
        have hzc := zero_cells (VR.cells hzv) hzl c.toNat
        obtain ⟨i, hi, hib⟩ : ∃ i, P.info? e = some i ∧ i.bytes = by_ := by
          unfold bytesT at hby
          cases hi : P.info? e with
          | none => rw [hi] at hby; cases hby
          | some i => rw [hi] at hby; simp at hby; exact ⟨i, rfl, hby⟩
        have hrl : ∀ r ∈ zerosD z.cells c.toNat, r.length = sz + 1 := by intro r hr; rw [(List.mem_replicate.mp hr).2]; exact hzl
        have hzlen : (zerosD z.cells c.toNat).length = c.toNat := by simp [zerosD]
        have hm := moves_rows ha (c := (Array.range (c.toNat * (sz + 1))).map (zv.cells[· % zv.cells.size]!)) (t := e) (sz := sz + 1) (tot := c.toNat) hrl (by
            rw [flat_all, List.all_eq_true]; intro r hr; rw [(List.mem_replicate.mp hr).2]; exact hz1) (by
            rw [hzlen]
            have : ∀ (A : Array Value), A.size = c.toNat * (sz + 1) → A.toList.take (c.toNat * (sz + 1)) = A.toList := by
              intro A hA; rw [← hA, ← Array.length_toList, List.take_length]
            rw [this _ (by simp)]
            exact hzc) (by omega) (by simp)
        refine ⟨.slice (some ⟨w.heap.size, 0, none⟩) l.toNat c.toNat, _, _, ?_, ?_, hm⟩
        · have hlw := wrap_small h0 (by omega)
          have hcw := wrap_small (n := c) (by omega) hcm'
          have hprod : (i.bytes : Int) * c ≤ 4096 * 2147483648 := by
            have h1 : (i.bytes : Int) ≤ 4096 := by omega
            have h2 : 0 ≤ c := by omega
            exact Int.mul_le_mul h1 hcm' h2 (by omega)
          have hn1 : ¬ ((decide (c < 0) || decide ((i.bytes : Int) * c > 2 ^ 48) || decide (l < 0) || decide (l > c)) = true) := by
            simp; omega
          simp only [Instr.makeSlice, Sem.run_bind, r_underlying hu, Result.andThen_ok, asInt, asIntOf, Sem.run_pure, r_info hi, hlw, hcw]
          rw [if_neg hn1]
          simp only [Sem.run_bind, run_askRoom, Result.andThen_ok, r_sizeOf hs]
          by_cases hn0 : c.toNat * (sz + 1) = 0
          · have r0 : Array.range 0 = (#[] : Array Nat) := by apply Array.ext'; simp
            simp [hn0, newRow, r0]
          · simp [hn0, hzr, newRow]
        · simp only [VR]
          exact ⟨_, _, _, Rho.add_same _ _ _, rfl, rfl, by omega, Nat.le_refl _, fun _ => rfl, by simp, .inr (by simp [Pl.addr])⟩
      · cases h
    · cases h
  · cases h
theorem obj_plain {H : DH} {w : World} (ha : Agree ρ H w) (o : Obj) (d : DObj) (h : ∀ ρ', ObjR ρ' ⟨w.heap.size, 0, 0, 0⟩ (some o) d) :
    Moves ρ H w (ρ.add H.next ⟨w.heap.size, 0, 0, 0⟩) (H.new d) { w with heap := w.heap.push o } :=
  moves_new ha o d ⟨w.heap.size, 0, 0, 0⟩ rfl (h _)
theorem makeMap_sound {H : DH} {w : World} (ha : Agree ρ H w) {t k e : TypeId} (hu : P.underlying t = some (.map k e)) (r : Option Value) (hr : ∀ v, r = some v → ∃ j n, v = .int j n) : Made P ρ H w (Instr.makeMap t r) (.map (some H.next)) (H.new (.map [])) := by
  have hm := obj_plain ha (.map #[] 0) (.map []) (fun ρ' => ⟨#[], 0, rfl, EntsR.nil, Stamps.none⟩)
  refine ⟨.map (some w.heap.size), _, _, ?_, ?_, hm⟩
  · cases r with
    | none => simp [Instr.makeMap]
    | some v =>
      obtain ⟨j, n, rfl⟩ := hr v rfl
      simp [Instr.makeMap, r_underlying hu, asInt, asIntOf]
  · simp only [VR]
    exact ⟨_, Rho.add_same _ _ _, rfl⟩
theorem range_sound {H : DH} {w : World} (ha : Agree ρ H w) {t : TypeId} (hu : P.underlying t = some .string) (s : List UInt8) : Made P ρ H w (Instr.range t (.string ⟨s.toArray⟩)) (.ptr (some (H.next, 0, 0))) (H.new (.iter s 0)) := by
  have hm := obj_plain ha (.stringIter ⟨s.toArray⟩ 0) (.iter s 0) (fun ρ' => ⟨rfl, rfl, rfl⟩)
  refine ⟨.pointer (some ⟨w.heap.size, 0, none⟩), _, _, ?_, ?_, hm⟩
  · simp [Instr.range, r_underlying hu]
  · simp only [VR]
    exact ⟨_, Rho.add_same _ _ _, by simp [Pl.addr]⟩
theorem oneBlock_set (w : World) (b : Nat) (o : Obj) : OneBlock w { w with heap := w.heap.setIfInBounds b o } b :=
  ⟨rfl, rfl, rfl, rfl, by simp, fun k hk => by simp only [Array.getElem?_setIfInBounds]; rw [if_neg (fun e => hk e.symm)]⟩
theorem next_sound {H H' : DH} {w : World} (ha : Agree ρ H w) {x d : DV} {v : Value} (h : nextD H x = some (d, H')) (hx : VR ρ x v) (ty : TypeId) : Made P ρ H w (Instr.next v true ty) d H' := by
  unfold nextD at h
  split at h
  · rename_i l
    split at h
    · rename_i s pos ho
      simp only [VR] at hx
      obtain ⟨pl, hp, rfl⟩ := hx
      obtain ⟨pl', hp', hb, hoff, hsz⟩ := ha.obj l _ ho
      rw [hp] at hp'
      cases hp'
      have hg : (getObj pl.block).run P w = .ok (.stringIter ⟨s.toArray⟩ pos) w := by simp [getObj, Sem.run, hb]
      have hadr : pl.addr 0 0 = ⟨pl.block, 0, none⟩ := by unfold Pl.addr; rw [hoff]; simp
      rw [hadr]
      split at h
      · rename_i hpos
        split at h
        rename_i c width hdec
        cases h
        have hlt := ha.lies l pl hp
        refine ⟨.tuple #[.bool true, goInt pos, .int .i32 c], { w with heap := w.heap.setIfInBounds pl.block (.stringIter ⟨s.toArray⟩ (pos + width)) }, ρ, ?_, ?_, ?_⟩
        · have hs : (setObj pl.block (.stringIter ⟨s.toArray⟩ (pos + width))).run P w = .ok () { w with heap := w.heap.setIfInBounds pl.block (.stringIter ⟨s.toArray⟩ (pos + width)) } := by
            simp [setObj, Sem.run, hb]
          simp only [Instr.next, Sem.run_bind, hg, Result.andThen_ok, size_mk]
          rw [if_pos hpos, hdec]
          simp only [Sem.run_bind, hs, Result.andThen_ok, Sem.run_pure]
        · simp only [VR]
          exact ⟨_, rfl, .cons (VR_bool _) (.cons (VR_int _ _) (.one (VR_int _ _)))⟩
        · refine moves_set ha ho rfl rfl hp (oneBlock_set _ _ _) ⟨?_, hoff, hsz⟩
          simp [Array.getElem?_setIfInBounds, hlt]
      · rename_i hpos
        cases h
        refine ⟨.tuple #[.bool false], w, ρ, ?_, ?_, Moves.refl ha⟩
        · simp only [Instr.next, Sem.run_bind, hg, Result.andThen_ok, size_mk]
          rw [if_neg hpos]
          rfl
        · simp only [VR]
          exact ⟨_, rfl, .one (VR_bool _)⟩
    · cases h
  · cases h
theorem bytes_rows (s : List UInt8) : VRs ρ (s.map fun b => [DV.int .u8 b.toNat]).flatten ((s.toArray.map fun b => Value.int .u8 b.toNat).toList) := by
  induction s with
  | nil => simp [VRs]
  | cons b s ih => simp only [List.map_cons, List.flatten_cons, List.singleton_append, Array.toList_map] at ih ⊢; exact .cons (VR_int _ _) ih
theorem strBytes_sound {H : DH} {w : World} (ha : Agree ρ H w) {s t e : TypeId} {td : TypeDesc} (hs : P.underlying s = some td) (ht : P.underlying t = some (.slice e)) (he : P.underlying e = some (.int .u8)) (l : List UInt8) :
    Made P ρ H w (convert s t (.string ⟨l.toArray⟩)) (.sl (some (H.next, 0, 1)) l.length l.length false) (H.new (.rows false 1 (l.map fun b => [.int .u8 b.toNat]))) := by
  let cap := (Question.appendCap l.length 0 e).cut (w.tape w.drawn (.appendCap l.length 0 e))
  have hcap : l.length ≤ cap := by simp only [cap, Question.cut]; exact Nat.le_add_right _ _
  let c : Array Value := (l.toArray.map fun b => Value.int .u8 b.toNat) ++ Array.replicate (cap - l.length) (.int .u8 0)
  have hcs : c.size = cap := by simp [c]; omega
  have ha' := ha.drew
  have hobj : ObjR (ρ.add H.next ⟨w.heap.size, 0, 1, cap⟩) ⟨w.heap.size, 0, 1, cap⟩ (some (.cells c e (cap, cap + 1))) (.rows false 1 (l.map fun b => [.int .u8 b.toNat])) := by
    refine obj_new (by simp) (by simp [flat_all, DV.one]) ?_ (by simpa using hcap) (by simp [hcs]) (by intro k hk; simp; omega)
    have : c.toList.take ((l.map fun b => [DV.int .u8 b.toNat]).length * 1) = (l.toArray.map fun b => Value.int .u8 b.toNat).toList := by simp [c]
    rw [this]
    exact bytes_rows l
  have hm := moves_new ha' (.cells c e (cap, cap + 1)) _ ⟨w.heap.size, 0, 1, cap⟩ rfl hobj
  refine ⟨.slice (some ⟨w.heap.size, 0, none⟩) l.length cap, _, _, ?_, ?_, (Moves.drew ha).trans hm⟩
  · have hsz : (⟨l.toArray⟩ : ByteArray).size = l.length := size_mk l
    have hconv : (convert s t (.string ⟨l.toArray⟩)).run P w = (Conv.stringToBytes e ⟨l.toArray⟩).run P w := by
      cases td <;> simp [convert, r_underlying hs, r_underlying ht, r_underlying he]
    rw [hconv]
    simp only [Conv.stringToBytes, Sem.run_bind, run_choose, hsz]
    have hnf : (Question.appendCap l.length 0 e).forced = false := rfl
    rw [hnf]
    simp only [Bool.false_eq_true, if_false, Result.andThen_ok]
    show ((newRow e c).run P { w with drawn := w.drawn + 1 }).andThen _ = _
    simp only [newRow, Sem.run_bind, run_newObj, Result.andThen_ok, Sem.run_pure, markStringish, run_shape, World.shape?]
    simp only [Array.getElem?_push_size]
    simp only [run_freeze, Result.andThen_ok, Sem.run_pure, World.freeze]
    rw [if_neg (by omega)]
    congr 2
    apply Array.ext_getElem?
    intro k
    simp only [Array.getElem?_modify, Array.getElem?_push]
    by_cases e : w.heap.size = k
    · subst e; simp [hcs]
    · rw [if_neg e]
      by_cases e2 : k = w.heap.size
      · exact absurd e2.symm e
      · simp [e2]
  · simp only [VR]
    exact ⟨_, _, _, Rho.add_same _ _ _, rfl, rfl, Nat.le_refl _, hcap, (by simp), (by simp), .inr (by simp [Pl.addr])⟩
end
end Go.Det

/- Maps written. -/
namespace Go.Det
set_option linter.unusedVariables false
set_option linter.unusedSimpArgs false
section
variable {P : Program} {ρ : Rho}
def scalarKey : DV → Bool
  | .bool _ | .int _ _ | .str _ => true
  | _ => false
theorem same_scalar {k k' : DV} {v v' : Value} (hk : VR ρ k v) (hk' : VR ρ k' v') (hb : DV.beq k k' = true) (hp : scalarKey k = true) (d : Nat) : Instr.sameBits d v' v = true := by
  cases k <;> simp only [scalarKey] at hp <;> first | (cases hp; done) | skip
  · cases k' <;> simp only [DV.beq] at hb <;> first | (cases hb; done) | skip
    simp only [VR] at hk hk'; subst hk; subst hk'
    simp only [beq_iff_eq] at hb; subst hb
    cases d <;> simp [Instr.sameBits]
  · cases k' <;> simp only [DV.beq] at hb <;> first | (cases hb; done) | skip
    simp only [VR] at hk hk'; subst hk; subst hk'
    simp only [Bool.and_eq_true, beq_iff_eq] at hb
    obtain ⟨h1, h2⟩ := hb
    subst h1; subst h2
    cases d <;> simp [Instr.sameBits]
  · cases k' <;> simp only [DV.beq] at hb <;> first | (cases hb; done) | skip
    simp only [VR] at hk hk'; subst hk; subst hk'
    simp only [beq_iff_eq] at hb; subst hb
    have : ∀ (s : ByteArray), (s == s) = true := by intro s; rw [beq_toListBytes]; simp
    cases d <;> simp [Instr.sameBits, this]
theorem same_scalars {d : Nat} : ∀ {k k' : List DV} {v v' : List Value}, VRs ρ k v → VRs ρ k' v' → DV.beqs k k' = true → k.all scalarKey = true → v'.length = v.length ∧ ((v'.zip v).all fun (x, y) => Instr.sameBits d x y) = true
  | [], k', _, _, h, h', hb, _ => by
    cases k' with
    | nil => simp only [VRs] at h h'; subst h; subst h'; simp
    | cons => simp [DV.beqs] at hb
  | a :: k, k', _, _, h, h', hb, hp => by
    cases k' with
    | nil => simp [DV.beqs] at hb
    | cons a' k' =>
      simp only [VRs] at h h'
      obtain ⟨v, r, rfl, h1, h2⟩ := h
      obtain ⟨v', r', rfl, h1', h2'⟩ := h'
      simp only [DV.beqs, Bool.and_eq_true] at hb
      simp only [List.all_cons, Bool.and_eq_true] at hp
      obtain ⟨e1, e2⟩ := same_scalars h2 h2' hb.2 hp.2
      exact ⟨by simp [e1], by simp only [List.zip_cons_cons, List.all_cons, Bool.and_eq_true]; exact ⟨same_scalar h1 h1' hb.1 hp.1 d, e2⟩⟩
theorem same_key {k k' : DV} {v v' : Value} (hk : VR ρ k v) (hk' : VR ρ k' v') (hb : DV.beq k k' = true) (hp : plainKey k = true) : Instr.sameBits 10000 v' v = true := by
  cases k with
  | agg cs =>
    cases k' <;> simp only [DV.beq] at hb <;> first | (cases hb; done) | skip
    rename_i cs'
    simp only [VR] at hk hk'
    obtain ⟨_, vs, rfl, h⟩ := hk
    obtain ⟨_, vs', rfl, h'⟩ := hk'
    have hall : cs.all scalarKey = true := by
      simp only [plainKey] at hp
      rw [List.all_eq_true] at hp ⊢
      intro x hx
      have := hp x hx
      cases x <;> simp_all [scalarKey]
    obtain ⟨h1, h2⟩ := same_scalars (d := 9999) h h' hb hall
    show Instr.sameBits (9999 + 1) (.agg vs') (.agg vs) = true
    simp only [Instr.sameBits, Bool.and_eq_true, beq_iff_eq]
    exact ⟨by simpa using h1, h2⟩
  | bool => exact same_scalar hk hk' hb rfl _
  | int => exact same_scalar hk hk' hb rfl _
  | str => exact same_scalar hk hk' hb rfl _
  | _ => simp [plainKey] at hp
theorem findD_entry {t : TypeId} {k : DV} : ∀ {es : List (DV × DV)} {i : Nat} {v : DV}, findD P t k es = some (some (i, v)) → ∃ k', es[i]? = some (k', v) ∧ DV.beq k k' = true ∧ plainKey k = true
  | [], i, v, h => by simp [findD] at h
  | (k', v') :: es, i, v, h => by
    simp only [findD] at h
    split at h
    · rename_i hq
      cases h
      obtain ⟨_, h2⟩ := keq_eqT hq
      exact ⟨k', rfl, (h2 rfl).1, (h2 rfl).2⟩
    · cases hf : findD P t k es with
      | none => rw [hf] at h; cases h
      | some r =>
        rw [hf] at h
        cases r with
        | none => cases h
        | some x =>
          obtain ⟨j, u⟩ := x
          cases h
          obtain ⟨k', h1, h2⟩ := findD_entry hf
          exact ⟨k', by simpa using h1, h2⟩
    · cases h
theorem EntsR.get {es : List (DV × DV)} {ents : List MapEntry} (h : EntsR ρ es ents) : ∀ {i : Nat} {x : DV × DV}, es[i]? = some x → ∃ e, ents[i]? = some e ∧ EntR ρ x e := by
  induction h with
  | nil => intro i x h; simp at h
  | cons a _ ih =>
    intro i x h
    cases i with
    | zero => simp at h; subst h; exact ⟨_, rfl, a⟩
    | succ i => simp at h; obtain ⟨e, he, hr⟩ := ih h; exact ⟨e, by simpa using he, hr⟩
theorem EntsR.set {es : List (DV × DV)} {ents : List MapEntry} (h : EntsR ρ es ents) : ∀ (i : Nat) {x : DV × DV} {f : MapEntry → MapEntry}, (∀ e, ents[i]? = some e → EntR ρ x (f e)) → EntsR ρ (es.set i x) (ents.modify i f) := by
  induction h with
  | nil => intro i x f _; simp; exact .nil
  | cons a r ih =>
    intro i x f hf
    cases i with
    | zero => simp only [List.set_cons_zero, List.modify_zero_cons]; exact .cons (hf _ rfl) r
    | succ i => simp only [List.set_cons_succ, List.modify_succ_cons]; exact .cons a (ih i (fun e he => hf e (by simpa using he)))
theorem EntsR.snoc {es : List (DV × DV)} {ents : List MapEntry} (h : EntsR ρ es ents) {x : DV × DV} {e : MapEntry} (hx : EntR ρ x e) : EntsR ρ (es ++ [x]) (ents ++ [e]) := by
  induction h with
  | nil => exact .cons hx .nil
  | cons a _ ih => exact .cons a ih
theorem EntsR.erase {es : List (DV × DV)} {ents : List MapEntry} (h : EntsR ρ es ents) : ∀ (i : Nat), EntsR ρ (es.eraseIdx i) (ents.eraseIdx i) := by
  induction h with
  | nil => intro i; simp; exact .nil
  | cons a r ih =>
    intro i
    cases i with
    | zero => simpa using r
    | succ i => simp only [List.eraseIdx_cons_succ]; exact .cons a (ih i)
theorem under_of_eqT {t : TypeId} {x y : DV} {b : Bool} (h : eqT P 20 t x y = some b) : ∃ td, P.underlying t = some td := by
  cases hq : P.underlying t with
  | none => simp only [eqT, hq] at h; cases h
  | some td => exact ⟨td, rfl⟩
theorem update_sound {H H' : DH} {w : World} (ha : Agree ρ H w) {t : TypeId} {m k x : DV} {vm vk vx : Value} (h : updateD P t H m k x = some H') (hm : VR ρ m vm) (hk : VR ρ k vk) (hx : VR ρ x vx) :
    ∃ w', (Instr.mapUpdate t vm vk vx).run P w = .ok () w' ∧ Moves ρ H w ρ H' w' := by
  unfold updateD at h
  split at h
  · rename_i kt e l hu
    split at h
    · rename_i es ho
      split at h
      · rename_i hko
        cases hset : setEntry P kt k x es with
        | none => rw [hset] at h; cases h
        | some es' =>
          rw [hset] at h
          cases h
          simp only [VR] at hm
          obtain ⟨pl, hp, rfl⟩ := hm
          obtain ⟨pl', hp', ents, clock, hb, he, hst⟩ := ha.obj l _ ho
          rw [hp] at hp'
          cases hp'
          have hkk := (keq_eqT (keyOk_eqT hko)).1
          obtain ⟨td, htd⟩ := under_of_eqT hkk
          have hg : (getObj pl.block).run P w = .ok (.map ents clock) w := by simp [getObj, Sem.run, hb]
          have hck := checkKey_sound (P := P) 20 10000 kt k vk false w hkk (by omega) hk
          have hlt := ha.lies l pl hp
          have hso : ∀ o, (setObj pl.block o).run P w = .ok () { w with heap := w.heap.setIfInBounds pl.block o } := by intro o; simp [setObj, Sem.run, hb]
          have hmoves : ∀ (ents' : Array MapEntry) (clock' : Nat), EntsR ρ es' ents'.toList → Stamps ents' clock' → Moves ρ H w ρ (H.set l (some (.map es'))) { w with heap := w.heap.setIfInBounds pl.block (.map ents' clock') } := by
            intro ents' clock' he' hs'
            refine moves_set ha ho rfl rfl hp (oneBlock_set _ _ _) ⟨ents', clock', ?_, he', hs'⟩
            simp [Array.getElem?_setIfInBounds, hlt]
          unfold setEntry at hset
          cases hf : findD P kt k es with
          | none => rw [hf] at hset; cases hset
          | some r =>
            rw [hf] at hset
            obtain ⟨q, hq, hqr⟩ := findKey_sound htd hk he hf w
            cases r with
            | none =>
              simp only at hset
              cases hset
              simp only [FoundR] at hqr
              subst hqr
              refine ⟨_, ?_, hmoves (ents.push { key := vk, val := vx, born := clock }) (clock + 1) ?_ (hst.push _)⟩
              · simp only [Instr.mapUpdate, Sem.run_bind, r_underlying hu, Result.andThen_ok, hg, hck, hq, hso]
              · rw [Array.toList_push]; exact he.snoc ⟨hk, hx⟩
            | some y =>
              obtain ⟨i, u⟩ := y
              simp only at hset
              cases hset
              simp only [FoundR] at hqr
              obtain ⟨z, rfl, hz⟩ := hqr
              obtain ⟨k', hk1, hk2, hk3⟩ := findD_entry hf
              obtain ⟨en, hen, henr⟩ := he.get hk1
              rw [Array.getElem?_toList] at hen
              have hsame := same_key hk henr.key hk2 hk3
              have hstay : (Instr.keyThatStays (((ents[i]?).map (·.key)).getD vk) vk).run P w = .ok vk w := by
                simp [hen, Instr.keyThatStays, hsame]
              refine ⟨_, ?_, hmoves (ents.modify i fun e => { e with key := vk, val := vx }) clock ?_ (hst.modify _ _ _)⟩
              · simp only [Instr.mapUpdate, Sem.run_bind, r_underlying hu, Result.andThen_ok, hg, hck, hq, hstay, hso]
              · rw [Array.toList_modify]
                exact he.set i fun e _ => ⟨hk, hx⟩
      · cases h
    · cases h
  · cases h
theorem EntsR.len {es : List (DV × DV)} {ents : List MapEntry} (h : EntsR ρ es ents) : es.length = ents.length := by
  induction h with
  | nil => rfl
  | cons _ _ ih => simp [ih]
theorem entry_sound {H H' : DH} {w : World} (ha : Agree ρ H w) {t : TypeId} {m k r : DV} {vm vk : Value} (h : entryD P t H m k = some (r, H')) (hm : VR ρ m vm) (hk : VR ρ k vk) : Made P ρ H w (Instr.mapEntry t vm vk) r H' := by
  unfold entryD at h
  split at h
  · cases h
  · rename_i hE
    have hE' : eraseOk = false := by cases hq : eraseOk; rfl; exact absurd hq hE
    split at h
    · rename_i kt e l hu
      split at h
      · rename_i es z ho hz
        split at h
        · rename_i hko
          simp only [VR] at hm
          obtain ⟨pl, hp, rfl⟩ := hm
          obtain ⟨pl', hp', ents, clock, hb, he, hst⟩ := ha.obj l _ ho
          rw [hp] at hp'
          cases hp'
          have hkk := (keq_eqT (keyOk_eqT hko)).1
          obtain ⟨td, htd⟩ := under_of_eqT hkk
          have hg : (getObj pl.block).run P w = .ok (.map ents clock) w := by simp [getObj, Sem.run, hb]
          have hck := checkKey_sound (P := P) 20 10000 kt k vk false w hkk (by omega) hk
          have hlt := ha.lies l pl hp
          have hso : ∀ o, (setObj pl.block o).run P w = .ok () { w with heap := w.heap.setIfInBounds pl.block o } := by intro o; simp [setObj, Sem.run, hb]
          have hmoves : ∀ (es' : List (DV × DV)) (ents' : Array MapEntry) (clock' : Nat), EntsR ρ es' ents'.toList → Stamps ents' clock' → Moves ρ H w ρ (H.set l (some (.map es'))) { w with heap := w.heap.setIfInBounds pl.block (.map ents' clock') } := by
            intro es' ents' clock' he' hs'
            refine moves_set ha ho rfl rfl hp (oneBlock_set _ _ _) ⟨ents', clock', ?_, he', hs'⟩
            simp [Array.getElem?_setIfInBounds, hlt]
          obtain ⟨hex1, hex2⟩ := hst.ex hE'
          have hel : es.length = ents.toList.length := EntsR.len he
          cases hf : findD P kt k es with
          | none => rw [hf] at h; cases h
          | some r' =>
            rw [hf] at h
            obtain ⟨q, hq, hqr⟩ := findKey_sound htd hk he hf w
            cases r' with
            | none =>
              simp only at h
              cases h
              simp only [FoundR] at hqr
              subst hqr
              obtain ⟨zv, hzv, hzr⟩ := r_zero hz ρ w
              refine ⟨.tuple #[zv, goInt clock], _, ρ, ?_, ?_, hmoves _ (ents.push { key := vk, val := zv, born := clock }) (clock + 1) ?_ (hst.push _)⟩
              · simp only [Instr.mapEntry, Sem.run_bind, r_underlying hu, Result.andThen_ok, hg, hck, hq, hso, hzv, Sem.run_pure]
              · rw [hex2, ← hel]
                simp [VR, VRs, goInt]
                exact hzr
              · rw [Array.toList_push]; exact he.snoc ⟨hk, hzr⟩
            | some y =>
              obtain ⟨i, u⟩ := y
              simp only at h
              cases h
              simp only [FoundR] at hqr
              obtain ⟨zv, rfl, hzr⟩ := hqr
              obtain ⟨k', hk1, hk2, hk3⟩ := findD_entry hf
              obtain ⟨en, hen, henr⟩ := he.get hk1
              have hborn := hex1 i en hen
              rw [Array.getElem?_toList] at hen
              have hsame := same_key hk henr.key hk2 hk3
              have hstay : (Instr.keyThatStays (((ents[i]?).map (·.key)).getD vk) vk).run P w = .ok vk w := by
                simp [hen, Instr.keyThatStays, hsame]
              refine ⟨.tuple #[zv, goInt (((ents[i]?).map (·.born)).getD 0)], _, ρ, ?_, ?_, hmoves _ (ents.modify i fun e => { e with key := vk }) clock ?_ (hst.modifyf i _ (fun _ => rfl))⟩
              · simp only [Instr.mapEntry, Sem.run_bind, r_underlying hu, Result.andThen_ok, hg, hck, hq, hstay, hso, Sem.run_pure]
              · rw [hen]
                simp [VR, VRs, goInt, hborn]
                exact hzr
              · rw [Array.toList_modify]
                refine he.set i fun e' he' => ⟨hk, ?_⟩
                rw [Array.getElem?_toList, hen] at he'
                cases he'
                exact henr.val
        · cases h
      · cases h
    · cases h
theorem entryStore_sound {H H' : DH} {w : World} (ha : Agree ρ H w) {t : TypeId} {m s x : DV} {vm vs vx : Value} (h : entryStoreD H m s x = some H') (hm : VR ρ m vm) (hs : VR ρ s vs) (hx : VR ρ x vx) :
    ∃ w', (Instr.entryStore t vm vs vx).run P w = .ok () w' ∧ Moves ρ H w ρ H' w' := by
  unfold entryStoreD at h
  split at h
  · cases h
  · rename_i hE
    have hE' : eraseOk = false := by cases hq : eraseOk; rfl; exact absurd hq hE
    split at h
    · rename_i l i
      split at h
      · rename_i es ho
        split at h
        · rename_i hi0
          split at h
          · rename_i k u hiu
            cases h
            simp only [VR] at hm hs
            subst hs
            obtain ⟨pl, hp, rfl⟩ := hm
            obtain ⟨pl', hp', ents, clock, hb, he, hst⟩ := ha.obj l _ ho
            rw [hp] at hp'
            cases hp'
            have hg : (getObj pl.block).run P w = .ok (.map ents clock) w := by simp [getObj, Sem.run, hb]
            have hlt := ha.lies l pl hp
            have hso : ∀ o, (setObj pl.block o).run P w = .ok () { w with heap := w.heap.setIfInBounds pl.block o } := by intro o; simp [setObj, Sem.run, hb]
            obtain ⟨hex1, hex2⟩ := hst.ex hE'
            obtain ⟨en, hen, henr⟩ := he.get hiu
            have hfi : ents.findIdx? (fun e => (e.born : Int) == i) = some i.toNat := by
              rw [Array.findIdx?_eq_some_iff_getElem]
              have hlt2 := (List.getElem?_eq_some_iff.mp hen).1
              have hg2 := (List.getElem?_eq_some_iff.mp hen).2
              refine ⟨by simpa using hlt2, ?_, fun j hj => ?_⟩
              · have := hex1 i.toNat en hen
                have e2 : ents[i.toNat]'(by simpa using hlt2) = en := by simpa using hg2
                rw [e2, this]
                simp; omega
              · have hjl : j < ents.toList.length := by simp at hlt2 ⊢; omega
                have := hex1 j (ents.toList[j]) (List.getElem?_eq_getElem hjl)
                have e2 : ents.toList[j] = ents[j]'(by simpa using hjl) := by simp
                rw [e2] at this
                simp only [this, beq_iff_eq]
                omega
            have hmoves : ∀ (es' : List (DV × DV)) (ents' : Array MapEntry) (clock' : Nat), EntsR ρ es' ents'.toList → Stamps ents' clock' → Moves ρ H w ρ (H.set l (some (.map es'))) { w with heap := w.heap.setIfInBounds pl.block (.map ents' clock') } := by
              intro es' ents' clock' he' hs'
              refine moves_set ha ho rfl rfl hp (oneBlock_set _ _ _) ⟨ents', clock', ?_, he', hs'⟩
              simp [Array.getElem?_setIfInBounds, hlt]
            refine ⟨_, ?_, hmoves _ (ents.modify i.toNat fun e => { e with val := vx }) clock ?_ (hst.modifyf _ _ (fun _ => rfl))⟩
            · simp only [Instr.entryStore, Sem.run_bind, hg, Result.andThen_ok, asInt, asIntOf, Sem.run_pure, hfi, hso]
            · rw [Array.toList_modify]
              refine he.set i.toNat fun e' he' => ⟨?_, hx⟩
              rw [hen] at he'
              cases he'
              exact henr.key
          · cases h
        · cases h
      · cases h
    · cases h
theorem delete_sound {H H' : DH} {w : World} (ha : Agree ρ H w) {t t2 ty : TypeId} {m k : DV} {vm vk : Value} (h : deleteD P t H m k = some H') (hm : VR ρ m vm) (hk : VR ρ k vk) :
    ∃ w', (Builtin.delete_ #[t, t2] ty #[vm, vk]).run P w = .ok (.tuple #[]) w' ∧ Moves ρ H w ρ H' w' := by
  unfold deleteD at h
  split at h
  · rename_i kt e l hu
    split at h
    · rename_i es ho
      split at h
      · rename_i hko
        rw [Bool.and_eq_true] at hko
        obtain ⟨hko, her⟩ := hko
        cases hset : dropEntry P kt k es with
        | none => rw [hset] at h; cases h
        | some es' =>
          rw [hset] at h
          cases h
          simp only [VR] at hm
          obtain ⟨pl, hp, rfl⟩ := hm
          obtain ⟨pl', hp', ents, clock, hb, he, hst⟩ := ha.obj l _ ho
          rw [hp] at hp'
          cases hp'
          have hkk := (keq_eqT (keyOk_eqT hko)).1
          obtain ⟨td, htd⟩ := under_of_eqT hkk
          have hg : (getObj pl.block).run P w = .ok (.map ents clock) w := by simp [getObj, Sem.run, hb]
          have hck := checkKey_sound (P := P) 20 10000 kt k vk ents.isEmpty w hkk (by omega) hk
          have hlt := ha.lies l pl hp
          have hso : ∀ o, (setObj pl.block o).run P w = .ok () { w with heap := w.heap.setIfInBounds pl.block o } := by intro o; simp [setObj, Sem.run, hb]
          have hmoves : ∀ (ents' : Array MapEntry) (clock' : Nat), EntsR ρ es' ents'.toList → Stamps ents' clock' → Moves ρ H w ρ (H.set l (some (.map es'))) { w with heap := w.heap.setIfInBounds pl.block (.map ents' clock') } := by
            intro ents' clock' he' hs'
            refine moves_set ha ho rfl rfl hp (oneBlock_set _ _ _) ⟨ents', clock', ?_, he', hs'⟩
            simp [Array.getElem?_setIfInBounds, hlt]
          unfold dropEntry at hset
          cases hf : findD P kt k es with
          | none => rw [hf] at hset; cases hset
          | some r =>
            rw [hf] at hset
            obtain ⟨q, hq, hqr⟩ := findKey_sound htd hk he hf w
            cases r with
            | none =>
              simp only at hset
              cases hset
              simp only [FoundR] at hqr
              subst hqr
              refine ⟨_, ?_, hmoves ents clock he hst⟩
              simp only [Builtin.delete_, List.getElem?_toArray, List.getElem?_cons_zero, List.getElem?_cons_succ, Sem.run_bind, r_underlying hu, Result.andThen_ok, hg, hck, hq, hso, Sem.run_pure]
            | some y =>
              obtain ⟨i, u⟩ := y
              simp only at hset
              cases hset
              simp only [FoundR] at hqr
              obtain ⟨z, rfl, hz⟩ := hqr
              refine ⟨_, ?_, hmoves (ents.eraseIdxIfInBounds i) clock ?_ (hst.erase her _)⟩
              · simp only [Builtin.delete_, List.getElem?_toArray, List.getElem?_cons_zero, List.getElem?_cons_succ, Sem.run_bind, r_underlying hu, Result.andThen_ok, hg, hck, hq, hso, Sem.run_pure]
              · have : (ents.eraseIdxIfInBounds i).toList = ents.toList.eraseIdx i := by
                  rw [Array.eraseIdxIfInBounds]
                  split
                  · rw [Array.toList_eraseIdx]
                  · rename_i hn
                    rw [List.eraseIdx_of_length_le (by simpa using hn)]
                rw [this]
                exact he.erase i
      · cases h
    · cases h
  · cases h
theorem zeroCells_eq (zc : Array Value) (n : Nat) {sz : Nat} (h : zc.size = sz + 1) : Builtin.zeroCells zc n = (Array.range (n * (sz + 1))).map (zc[· % zc.size]!) := by
  unfold Builtin.zeroCells
  rw [h]
theorem zeroCells_sound {z : DV} {zv : Value} (hz : VR ρ z zv) {sz : Nat} (hs : z.cells.length = sz + 1) (n : Nat) : VRs ρ (zerosD z.cells n).flatten (Builtin.zeroCells zv.cells n).toList := by
  have hc := VR.cells hz
  have hl := VRs.length hc
  simp only [Array.length_toList] at hl
  rw [zeroCells_eq _ _ (by omega : zv.cells.size = sz + 1)]
  exact zero_cells hc hs n
theorem clear_sound {H H' : DH} {w : World} (ha : Agree ρ H w) {t ty : TypeId} {x : DV} {v : Value} (h : clearD P t H x = some H') (hx : VR ρ x v) :
    ∃ w', (Builtin.clear_ #[t] ty #[v]).run P w = .ok (.tuple #[]) w' ∧ Moves ρ H w ρ H' w' := by
  unfold clearD at h
  split at h
  · rename_i e n c ex hu
    cases h
    simp only [VR] at hx
    obtain ⟨rfl, rfl, rfl⟩ := hx
    refine ⟨w, ?_, Moves.refl ha⟩
    simp [Builtin.clear_, r_underlying hu]
  · rename_i e p c ex hne hu
    cases h
    refine ⟨w, ?_, Moves.refl ha⟩
    cases p with
    | none => simp only [VR] at hx; obtain ⟨_, rfl, rfl⟩ := hx; simp [Builtin.clear_, r_underlying hu]
    | some p => obtain ⟨l, i, z⟩ := p; simp only [VR] at hx; obtain ⟨pl, a, c', hp, hz, rfl, _⟩ := hx; simp [Builtin.clear_, r_underlying hu]
  · rename_i e l i z n c ex hne hu
    split at h
    · rename_i sz rs zd ho hz
      split at h
      · rename_i hc
        obtain ⟨hzl, hz1, hle, hs⟩ := hc
        cases h
        simp only [VR] at hx
        obtain ⟨pl, a, c', hp, hpz, rfl, hnc, hcc, hex, htot, haa⟩ := hx
        obtain ⟨h1, h2, h3, h4⟩ := ha.rows_sz ho hp
        cases n with
        | zero => exact (hne rfl).elim
        | succ n =>
          have ha0 : a = pl.addr i 0 := by
            rcases haa with h | h
            · omega
            · exact h
          subst ha0
          obtain ⟨zv, hzr, hzv⟩ := r_zero hz ρ w
          · have hzc := zeroCells_sound hzv hzl (n + 1)
            have hrl : ∀ r ∈ zerosD zd.cells (n + 1), r.length = sz + 1 := by intro r hr; rw [(List.mem_replicate.mp hr).2]; exact hzl
            have hpat := patched_rows h3 hrl (show i ≤ rs.length by omega)
            have hfl := flatten_len hrl
            have hzn : (zerosD zd.cells (n + 1)).length = n + 1 := by simp [zerosD]
            have hb : i * (sz + 1) + (zerosD zd.cells (n + 1)).flatten.length ≤ pl.tot * (sz + 1) := by
              rw [hfl, hzn, ← Nat.add_mul]
              exact Nat.mul_le_mul_right _ (by omega)
            obtain ⟨hrun, hobj⟩ := obj_write (P := P) h4 hpat (by simp [setRows, hzn]; omega) hb hzc (by
              rw [flat_all, List.all_eq_true]; intro r hr; rw [(List.mem_replicate.mp hr).2]; exact hz1)
            refine ⟨_, ?_, moves_set ha ho rfl rfl hp (setCells_one _ _ _ _) hobj⟩
            have hadr : pl.addr i 0 = ⟨pl.block, pl.off + i * (sz + 1), none⟩ := by unfold Pl.addr; rw [h1]; rfl
            rw [hadr]
            simp [Builtin.clear_, r_underlying hu, hzr, hrun]
      · cases h
    · cases h
  · cases h
end
end Go.Det

/- append, and all operations that write or make memory. -/
namespace Go.Det
set_option linter.unusedVariables false
set_option linter.unusedSimpArgs false
section
variable {P : Program} {ρ : Rho}
theorem growBy_le (n : Nat) : ∀ (r c : Nat), Builtin.growBy n r c ≤ (c + 768) * 2 ^ r
  | 0, c => by simp [Builtin.growBy]
  | r + 1, c => by
    simp only [Builtin.growBy]
    split
    · have : 1 ≤ 2 ^ (r + 1) := Nat.one_le_two_pow
      have : (c + 768) * 1 ≤ (c + 768) * 2 ^ (r + 1) := Nat.mul_le_mul_left _ this
      omega
    · have h := growBy_le n r (c + (c + 768) / 4)
      refine Nat.le_trans h ?_
      rw [Nat.pow_succ, Nat.mul_comm (2 ^ r) 2, ← Nat.mul_assoc]
      exact Nat.mul_le_mul_right _ (by omega)
theorem nextslicecap_le {need old : Nat} (h1 : need ≤ 2147483648) (h2 : old < need) : Builtin.nextslicecap need old ≤ 34359750656 := by
  unfold Builtin.nextslicecap
  split
  · omega
  · split
    · omega
    · have h := growBy_le need 4 old
      have e : 2 ^ 4 = 16 := rfl
      rw [e] at h
      generalize Builtin.growBy need 4 old = g at h ⊢
      exact Nat.le_trans h (by omega)
/-- What append comes to, by the room that there is. -/
structure AppRun (P : Program) (w : World) (s : Sem Value) (e : TypeId) (sz : Nat) (base : Option Addr) (sLen sCap n : Nat) (nc : Array Value) : Prop where
  room : sLen + n ≤ sCap → s.run P w = ((match base with | some a => storeCells (a.add (sLen * (sz + 1))) nc.toList | none => pure () : Sem Unit).run P w).andThen fun _ w' => .ok (.slice base (sLen + n) sCap) w'
  grow : sCap < sLen + n → sLen + n ≤ 2147483648 → ∀ (oc : Array Value) (zv : Value), (∀ w1 : World, w1.heap = w.heap → (Builtin.firstCells (sz + 1) sLen (.slice base sLen sCap)).run P w1 = .ok oc w1) → (∀ w1, (zeroValue e).run P w1 = .ok zv w1) →
    ∃ newCap, sLen + n ≤ newCap ∧ s.run P w = .ok (.slice (some ⟨w.heap.size, 0, none⟩) (sLen + n) newCap) { w with drawn := w.drawn + 1, heap := w.heap.push (.cells (oc ++ nc ++ Builtin.zeroCells zv.cells (newCap - (sLen + n))) e (0, 0)) }
theorem append_run_false {st xt ty e : TypeId} {td : TypeDesc} (hu : P.underlying st = some (.slice e)) (hxt : P.underlying xt = some td) (hni : ∀ k, td ≠ .int k) {sz : Nat} (hsz : sizeT P e = some (sz + 1)) {i : TypeInfo} (hi : P.info? e = some i) (hb : i.bytes ≤ 4096) (hb0 : sz + 1 ≠ 0)
    (base : Option Addr) (sLen sCap : Nat) {vx : Value} {n : Nat} {nc : Array Value} (w : World) (hn : (Builtin.lenOf vx).run P w = .ok n w) (happ : ∀ w1 : World, w1.heap = w.heap → (Builtin.firstCells (sz + 1) n vx).run P w1 = .ok nc w1) :
    AppRun P w (Builtin.append_ #[st, xt] ty #[.slice base sLen sCap, vx]) e sz base sLen sCap n nc := by
  have hstart : (Builtin.append_ #[st, xt] ty #[.slice base sLen sCap, vx]).run P w = (Builtin.append_ #[st, xt] ty #[.slice base sLen sCap, vx]).run P w := rfl
  constructor
  · intro hroom
    simp only [Builtin.append_, List.getElem?_toArray, List.getElem?_cons_zero, List.getElem?_cons_succ, Sem.run_bind, r_underlying hu, r_underlying hxt, Result.andThen_ok, r_sizeOf hsz, Sem.run_pure]
    generalize hz : (match td with | TypeDesc.int k => true | x => false) = zeros
    have : zeros = false := by rw [← hz]; cases td <;> first | rfl | exact absurd rfl (hni _)
    subst this
    simp only [Bool.false_eq_true, if_false, Bool.not_false, if_true, Sem.run_bind, hn, Result.andThen_ok, if_pos hroom, happ w rfl]
    cases base <;> simp
  · intro hgrow hlim oc zv hoc hzv
    refine ⟨(Question.appendCap (sLen + n) sCap e).cut (w.tape w.drawn (.appendCap (sLen + n) sCap e)), by simp only [Question.cut]; exact Nat.le_add_right _ _, ?_⟩
    simp only [Builtin.append_, List.getElem?_toArray, List.getElem?_cons_zero, List.getElem?_cons_succ, Sem.run_bind, r_underlying hu, r_underlying hxt, Result.andThen_ok, r_sizeOf hsz, Sem.run_pure]
    generalize hz : (match td with | TypeDesc.int k => true | x => false) = zeros
    have : zeros = false := by rw [← hz]; cases td <;> first | rfl | exact absurd rfl (hni _)
    subst this
    have h1 : ¬ (sLen + n ≤ sCap) := by omega
    have h2 : ¬ (((sLen + n : Nat) : Int) > IntKind.i64.max ∧ (False ∨ i.bytes = 0)) := by
      have : IntKind.i64.max = 9223372036854775807 := by rfl
      rw [this]; omega
    have h3 : ¬ (Builtin.nextslicecap (sLen + n) sCap * i.bytes > 2 ^ 48) := by
      have := nextslicecap_le hlim hgrow
      have := Nat.mul_le_mul this hb
      omega
    have hnf : (Question.appendCap (sLen + n) sCap e).forced = false := rfl
    simp only [Bool.false_eq_true, if_false, Bool.not_false, if_true, Sem.run_bind, hn, Result.andThen_ok, if_neg h1, r_info hi, if_neg h2, if_neg h3, run_choose, hnf, run_askRoom]
    rw [hoc { w with drawn := w.drawn + 1 } rfl]
    simp only [Result.andThen_ok]
    rw [happ { w with drawn := w.drawn + 1 } rfl]
    simp only [Result.andThen_ok, hzv, newRow, Sem.run_bind, run_newObj, Sem.run_pure]
theorem append_run_true {st xt ty e : TypeId} {k j : IntKind} (hu : P.underlying st = some (.slice e)) (hxt : P.underlying xt = some (.int k)) {sz : Nat} (hsz : sizeT P e = some (sz + 1)) {i : TypeInfo} (hi : P.info? e = some i) (hb : i.bytes ≤ 4096)
    (base : Option Addr) (sLen sCap : Nat) {n : Int} (h0 : 0 ≤ n) (hm : n ≤ 2147483648) (w : World) {zv : Value} (hzv : ∀ w1, (zeroValue e).run P w1 = .ok zv w1) (hzs : zv.cells.size = sz + 1) :
    AppRun P w (Builtin.append_ #[st, xt] ty #[.slice base sLen sCap, .int j n]) e sz base sLen sCap n.toNat (Builtin.zeroCells zv.cells n.toNat) := by
  have hw := wrap_small h0 hm
  have hprod : n * (i.bytes : Int) ≤ 2147483648 * 4096 := Int.mul_le_mul hm (by omega) (by omega) (by omega)
  have hn' : ¬ n < 0 := by omega
  have hp' : ¬ n * (i.bytes : Int) > 2 ^ 48 := by omega
  have happ : ∀ w1 : World, (if n.toNat * (sz + 1) = 0 then pure #[] else (do pure (Builtin.zeroCells (← zeroValue e).cells n.toNat)) : Sem (Array Value)).run P w1 = .ok (Builtin.zeroCells zv.cells n.toNat) w1 := by
    intro w1
    split
    · rename_i hz
      have : n.toNat = 0 := by
        rcases Nat.mul_eq_zero.mp hz with h | h
        · exact h
        · omega
      have r0 : Array.range 0 = (#[] : Array Nat) := by apply Array.ext'; simp
      simp [this, Builtin.zeroCells, r0]
    · simp [hzv]
  constructor
  · intro hroom
    simp only [Builtin.append_, List.getElem?_toArray, List.getElem?_cons_zero, List.getElem?_cons_succ, Sem.run_bind, r_underlying hu, r_underlying hxt, Result.andThen_ok, r_sizeOf hsz, Sem.run_pure, if_true, asInt, asIntOf, hw, if_neg hn', r_info hi, if_neg hp', if_pos hroom, Bool.not_true, Bool.false_eq_true, if_false, happ w]
    cases base <;> simp
  · intro hgrow hlim oc zv' hoc hzv'
    refine ⟨(Question.appendCap (sLen + n.toNat) sCap e).cut (w.tape w.drawn (.appendCap (sLen + n.toNat) sCap e)), by simp only [Question.cut]; exact Nat.le_add_right _ _, ?_⟩
    have h1 : ¬ (sLen + n.toNat ≤ sCap) := by omega
    have h2 : ¬ (((sLen + n.toNat : Nat) : Int) > IntKind.i64.max ∧ (True ∨ i.bytes = 0)) := by
      have : IntKind.i64.max = 9223372036854775807 := by rfl
      rw [this]; omega
    have h3 : ¬ (Builtin.nextslicecap (sLen + n.toNat) sCap * i.bytes > 2 ^ 48) := by
      have := nextslicecap_le hlim hgrow
      have := Nat.mul_le_mul this hb
      omega
    have hnf : (Question.appendCap (sLen + n.toNat) sCap e).forced = false := rfl
    simp only [Builtin.append_, List.getElem?_toArray, List.getElem?_cons_zero, List.getElem?_cons_succ, Sem.run_bind, r_underlying hu, r_underlying hxt, Result.andThen_ok, r_sizeOf hsz, Sem.run_pure, if_true, asInt, asIntOf, hw, if_neg hn', r_info hi, if_neg hp', if_neg h1, if_neg h2, if_neg h3, Bool.not_true, Bool.false_eq_true, if_false, run_choose, hnf, run_askRoom]
    rw [hoc { w with drawn := w.drawn + 1 } rfl]
    simp only [Result.andThen_ok]
    rw [happ]
    simp only [Result.andThen_ok, hzv', newRow, Sem.run_bind, run_newObj, Sem.run_pure]
theorem appended_sound {st xt ty e : TypeId} {H : DH} {w : World} (ha : Agree ρ H w) {td : TypeDesc} (hu : P.underlying st = some (.slice e)) (hxt : P.underlying xt = some td) {x : DV} {vx : Value} {new : List (List DV)} {sz : Nat} (h : appendedD P e H (some td) x = some new) (hx : VR ρ x vx) (hs : sizeT P e = some (sz + 1)) (hr : ∀ r ∈ new, r.length = sz + 1)
    {i : TypeInfo} (hi : P.info? e = some i) (hb : i.bytes ≤ 4096) (base : Option Addr) (sLen sCap : Nat) :
    ∃ nc : Array Value, VRs ρ new.flatten nc.toList ∧ AppRun P w (Builtin.append_ #[st, xt] ty #[.slice base sLen sCap, vx]) e sz base sLen sCap new.length nc := by
  cases x with
  | int j n =>
    cases td with
    | int k =>
      simp only [appendedD] at h
      split at h
      · rename_i hc
        cases hz : zeroT P e with
        | none => rw [hz] at h; cases h
        | some z =>
          rw [hz] at h
          simp only at h
          split at h
          · rename_i hzs
            cases h
            simp only [VR] at hx
            subst hx
            have hm : n ≤ 2147483648 := by simpa [mostD] using hc.2
            have hlen : (zerosD z.cells n.toNat).length = n.toNat := by simp [zerosD]
            obtain ⟨i', v', hi', hz', hv'⟩ := zeroT_value hz
            have hrun : ∀ w1, (zeroValue e).run P w1 = .ok v' w1 := by intro w1; simp [zeroValue, r_info hi', hz']
            have hzv := ofValue_sound ρ hv'
            rw [hlen]
            have hzl : z.cells.length = sz + 1 := by rw [hs] at hzs; simpa using hzs.symm
            have hvl := VRs.length (VR.cells hzv)
            exact ⟨_, zeroCells_sound hzv hzl _, append_run_true hu hxt hs hi hb base sLen sCap hc.1 hm w hrun (by simp at hvl; omega)⟩
          · cases h
      · cases h
    | _ => simp [appendedD] at h
  | str s =>
    cases td with
    | string =>
      simp only [appendedD] at h
      cases h
      simp only [VR] at hx
      subst hx
      have hlen : (s.map fun b => [DV.int .u8 b.toNat]).length = s.length := by simp
      rw [hlen]
      refine ⟨s.toArray.map fun b => Value.int .u8 b.toNat, bytes_rows s, append_run_false hu hxt (by intro k h; cases h) hs hi hb (by omega) base sLen sCap w (by simp [Builtin.lenOf, size_mk]) ?_⟩
      intro w1 _
      have : (⟨s.toArray⟩ : ByteArray).extract 0 s.length = ⟨s.toArray⟩ := by
        rw [extract_mk]; simp
      simp [Builtin.firstCells, this]
    | _ => simp [appendedD] at h
  | sl p n c ex =>
    have hni : ∀ k, td ≠ .int k := by intro k hk; subst hk; simp [appendedD] at h
    have h' : rowsOf H (.sl p n c ex) = some new := by
      cases td <;> first | exact h | exact absurd rfl (hni _)
    clear h
    unfold rowsOf at h'
    cases p with
    | none =>
      simp only [VR] at hx
      obtain ⟨rfl, rfl, rfl⟩ := hx
      simp only at h'
      cases h'
      exact ⟨#[], .nil, append_run_false hu hxt hni hs hi hb (by omega) base sLen sCap w (by simp [Builtin.lenOf]) (fun w1 _ => by simp [Builtin.firstCells])⟩
    | some p =>
      obtain ⟨l, i', z⟩ := p
      simp only at h'
      split at h'
      · rename_i ro sz' rs ho
        split at h'
        · rename_i hle
          cases h'
          simp only [VR] at hx
          obtain ⟨pl, a, c', hp, hz, rfl, hnc, hcc, hex, htot, haa⟩ := hx
          obtain ⟨vs, hvs, hvl, hcell, hall, hrl⟩ := rows_of ha ho hp hle
          have hlen : ((rs.drop i').take n).length = n := by simp; omega
          rw [hlen]
          by_cases hn : n = 0
          · subst hn
            refine ⟨#[], by simp [VRs], append_run_false hu hxt hni hs hi hb (by omega) base sLen sCap w (by simp [Builtin.lenOf]) fun w1 _ => ?_⟩
            simp [Builtin.firstCells, loadCells, loadCellsFrom]
          · have hsz : pl.sz = sz + 1 := by
              cases hq : (rs.drop i').take n with
              | nil => rw [hq] at hlen; simp at hlen; omega
              | cons r rr =>
                have h1 := hrl r (by rw [hq]; simp)
                have h2 := hr r (by rw [hq]; simp)
                omega
            have ha0 : a = pl.addr i' 0 := by
              rcases haa with h | h
              · omega
              · exact h
            subst ha0
            refine ⟨vs.toArray, by simpa using hvs, append_run_false hu hxt hni hs hi hb (by omega) base sLen sCap w (by simp [Builtin.lenOf]) fun w1 hw1 => ?_⟩
            have hl := run_loadCells_list (P := P) w1 (pl.addr i' 0) vs (fun j v hj => by
              have := hcell j v hj
              rw [addr_add0, cell?_eq] at this ⊢
              rw [hw1]; exact this)
            rw [hvl, hsz] at hl
            simp [Builtin.firstCells, hl]
        · cases h'
      · cases h'
  | _ => cases td <;> simp [appendedD] at h
theorem obj_part {pl : Pl} {b : Option Obj} {sz i m c' : Nat} {rs : List (List DV)} (h : ObjR ρ pl b (.rows false sz rs)) (hc : i + c' ≤ pl.tot) (hm : m ≤ c') : ObjR ρ ⟨pl.block, pl.off + i * sz, sz, c'⟩ b (.rows false sz ((rs.drop i).take m)) := by
  obtain ⟨h1, h2, h3, h4⟩ := h
  refine ⟨rfl, by simp; omega, ?_, fun _ => ?_⟩
  · intro j r hr
    rw [List.getElem?_take] at hr
    split at hr
    · rw [List.getElem?_drop] at hr
      obtain ⟨h5, h6⟩ := h3 _ r hr
      refine ⟨h5, fun k d hd => ?_⟩
      have := h6 k d hd
      have e : pl.off + (i + j) * sz + k = pl.off + i * sz + j * sz + k := by rw [Nat.add_mul]; omega
      rw [e] at this
      exact this
    · cases hr
  · obtain ⟨c, t, lo, hi, hb, hs, hf⟩ := h4 rfl
    have : (i + c') * sz ≤ pl.tot * sz := Nat.mul_le_mul_right _ hc
    rw [Nat.add_mul] at this
    exact ⟨c, t, lo, hi, hb, by simp only; omega, fun k hk => hf k (by simp only at hk; omega)⟩
theorem setRows_part {rs new : List (List DV)} {i n : Nat} (h : i + n ≤ rs.length) : ((setRows rs (i + n) new).drop i).take (n + new.length) = (rs.drop i).take n ++ new := by
  unfold setRows
  rw [List.drop_append_of_le_length (by simp; omega)]
  have h1 : (List.take (i + n) rs).drop i = (rs.drop i).take n := by rw [List.drop_take]; congr 1; omega
  rw [h1]
  have hl : ((rs.drop i).take n).length = n := by simp; omega
  rw [List.take_append, hl]
  have : List.take (n + new.length) ((rs.drop i).take n) = (rs.drop i).take n := List.take_of_length_le (by omega)
  rw [this]
  congr 1
  have : n + new.length - n = new.length := by omega
  rw [this, List.take_left']
  rfl
theorem append_sound {H H' : DH} {w : World} (ha : Agree ρ H w) {st xt ty : TypeId} {td : TypeDesc} (hxt : P.underlying xt = some td) {s x d : DV} {vs vx : Value} (h : appendD P st (some td) H s x = some (d, H')) (hs : VR ρ s vs) (hx : VR ρ x vx) :
    Made P ρ H w (Builtin.append_ #[st, xt] ty #[vs, vx]) d H' := by
  unfold appendD at h
  split at h
  case h_2 => cases h
  rename_i e hu
  split at h
  case h_2 => cases h
  rename_i sz by_ z0 new hsz hby hz0 hnew
  replace hsz : sizeT P e = some (sz + 1) := hsz
  split at h
  case isFalse => cases h
  rename_i hc
  obtain ⟨hb, hzl, hall⟩ := hc
  have hr : ∀ r ∈ new, r.length = sz + 1 := by
    intro r hr
    rw [List.all_eq_true] at hall
    have := hall r hr
    simp only [Bool.and_eq_true, beq_iff_eq] at this
    exact this.1
  have h1 : new.flatten.all DV.one = true := by
    rw [flat_all, List.all_eq_true]
    intro r hr
    rw [List.all_eq_true] at hall
    have := hall r hr
    simp only [Bool.and_eq_true] at this
    exact this.2
  obtain ⟨i, hi, hib⟩ : ∃ i, P.info? e = some i ∧ i.bytes = by_ := by
    unfold bytesT at hby
    cases hi : P.info? e with
    | none => rw [hi] at hby; cases hby
    | some i => rw [hi] at hby; simp at hby; exact ⟨i, rfl, hby⟩
  obtain ⟨i', zv, hi', hz', hv'⟩ := zeroT_value hz0
  have hzv : ∀ w1, (zeroValue e).run P w1 = .ok zv w1 := by intro w1; simp [zeroValue, r_info hi', hz']
  have hzs : zv.cells.size = sz + 1 := by
    have := VRs.length (VR.cells (ofValue_sound ρ hv'))
    simp only [Array.length_toList] at this
    omega
  have hzcs : ∀ k, (Builtin.zeroCells zv.cells k).size = k * (sz + 1) := by intro k; simp [Builtin.zeroCells, hzs]
  cases s with
  | sl p n c ex =>
    cases p with
    | none =>
      simp only [VR] at hs
      obtain ⟨rfl, rfl, rfl⟩ := hs
      simp only at h
      obtain ⟨nc, hnc, happ⟩ := appended_sound (ty := ty) ha hu hxt hnew hx hsz hr hi (by omega) none 0 0
      have hncl : nc.size = new.length * (sz + 1) := by
        have := VRs.length hnc
        rw [flatten_len hr] at this
        simpa using this
      split at h
      · rename_i hnil
        cases h
        subst hnil
        have := happ.room (by simp)
        exact ⟨_, w, ρ, this, by simp [VR], Moves.refl ha⟩
      · rename_i hnil
        split at h
        · rename_i hmost
          cases h
          have hpos : 0 < new.length := List.length_pos_iff.mpr hnil
          obtain ⟨newCap, hcap, hrun⟩ := happ.grow (by omega) (by simpa [mostD] using hmost) #[] zv (fun w1 _ => by simp [Builtin.firstCells]) hzv
          simp only [Nat.zero_add] at hcap hrun
          have hm := moves_rows ha.drew (c := #[] ++ nc ++ Builtin.zeroCells zv.cells (newCap - new.length)) (t := e) (sz := sz + 1) (tot := newCap) hr h1 (by
            have : (#[] ++ nc ++ Builtin.zeroCells zv.cells (newCap - new.length)).toList.take (new.length * (sz + 1)) = nc.toList := by
              rw [← hncl]; simp [← Array.length_toList]
            rw [this]; exact hnc) hcap (by
              simp only [Array.size_append, hzcs, hncl]
              simp only [List.size_toArray, List.length_nil, Nat.zero_add]
              rw [← Nat.add_mul]
              exact Nat.mul_le_mul_right _ (by omega))
          refine ⟨_, _, _, hrun, ?_, (Moves.drew ha).trans hm⟩
          simp only [VR]
          exact ⟨_, _, _, Rho.add_same _ _ _, rfl, rfl, Nat.le_refl _, hcap, (by simp), (by simp), .inr (by simp [Pl.addr])⟩
        · cases h
    | some p =>
      obtain ⟨l, k, z⟩ := p
      simp only [VR] at hs
      obtain ⟨pl, a, c', hp, hpz, rfl, hnc', hcc, hex, htot, haa⟩ := hs
      simp only at h
      split at h
      · cases h
      rename_i hzz
      have hzz' : z = sz + 1 := by simpa using hzz
      subst hzz'
      obtain ⟨nc, hnc, happ⟩ := appended_sound (ty := ty) ha hu hxt hnew hx hsz hr hi (by omega) (some a) n c'
      have hncl : nc.size = new.length * (sz + 1) := by
        have := VRs.length hnc
        rw [flatten_len hr] at this
        simpa using this
      split at h
      · rename_i hnil
        cases h
        subst hnil
        have hnc0 : nc = #[] := by
          have : nc.size = 0 := by simpa using hncl
          exact Array.eq_empty_of_size_eq_zero this
        have := happ.room (by simp; omega)
        rw [hnc0] at this
        refine ⟨_, w, ρ, by simpa [storeCells] using this, ?_, Moves.refl ha⟩
        simp only [VR]
        exact ⟨pl, a, c', hp, hpz, by simp, hnc', hcc, hex, htot, haa⟩
      · rename_i hnil
        have hpos : 0 < new.length := List.length_pos_iff.mpr hnil
        split at h
        case h_2 => cases h
        rename_i ro sz' rs ho
        split at h
        · cases h
        rename_i hcond
        simp only [not_or, Decidable.not_not, Nat.not_lt] at hcond
        obtain ⟨hsz', hrl, hmost⟩ := hcond
        subst hsz'
        have hmost' : n + new.length ≤ 2147483648 := by simpa [mostD] using hmost
        obtain ⟨h2, h3, h4, h5⟩ := ha.rows_sz ho hp
        have hol : ((rs.drop k).take n).length = n := by simp; omega
        have hor : ∀ r ∈ (rs.drop k).take n, r.length = sz + 1 := by
          intro r hr'
          have hr2 := List.mem_of_mem_drop (List.mem_of_mem_take hr')
          obtain ⟨j, hj, rfl⟩ := List.getElem_of_mem hr2
          exact h4 j _ (List.getElem?_eq_getElem hj)
        have hbr : ∀ r ∈ (rs.drop k).take n ++ new, r.length = sz + 1 := by
          intro r hr'
          rcases List.mem_append.mp hr' with h | h
          · exact hor r h
          · exact hr r h
        -- a new row
        have grow : ∀ (ha1 : Agree ρ H w), c' < n + new.length → ∃ newCap, n + new.length ≤ newCap ∧ ∃ cc : Array Value, newCap * (sz + 1) ≤ cc.size ∧ VRs ρ ((rs.drop k).take n ++ new).flatten (cc.toList.take ((n + new.length) * (sz + 1))) ∧ ((rs.drop k).take n ++ new).flatten.all DV.one = true ∧
            (Builtin.append_ #[st, xt] ty #[.slice (some a) n c', vx]).run P w = .ok (.slice (some ⟨w.heap.size, 0, none⟩) (n + new.length) newCap) { w with drawn := w.drawn + 1, heap := w.heap.push (.cells cc e (0, 0)) } := by
          intro _ hlt
          obtain ⟨vs, hvs, hvl, hcell, hall', hrl'⟩ := rows_of ha ho hp hrl
          have hold : ∀ w1 : World, w1.heap = w.heap → (Builtin.firstCells (sz + 1) n (.slice (some a) n c')).run P w1 = .ok vs.toArray w1 := by
            intro w1 hw1
            by_cases hn0 : n = 0
            · subst hn0
              have : vs = [] := List.length_eq_zero_iff.mp (by simpa using hvl)
              subst this
              simp [Builtin.firstCells, loadCells, loadCellsFrom]
            · have ha0 : a = pl.addr k 0 := by
                rcases haa with h | h
                · omega
                · exact h
              subst ha0
              have hl := run_loadCells_list (P := P) w1 (pl.addr k 0) vs (fun j v hj => by
                have := hcell j v hj
                rw [addr_add0, cell?_eq] at this ⊢
                rw [hw1]; exact this)
              rw [hvl, h2] at hl
              simp [Builtin.firstCells, hl]
          obtain ⟨newCap, hcap, hrun⟩ := happ.grow hlt hmost' vs.toArray zv hold hzv
          refine ⟨newCap, hcap, _, ?_, ?_, ?_, hrun⟩
          · simp only [Array.size_append, hzcs, hncl, List.size_toArray, hvl, h2]
            rw [← Nat.add_mul, ← Nat.add_mul]
            exact Nat.mul_le_mul_right _ (by omega)
          · have : (vs.toArray ++ nc ++ Builtin.zeroCells zv.cells (newCap - (n + new.length))).toList.take ((n + new.length) * (sz + 1)) = vs ++ nc.toList := by
              rw [Array.toList_append, Array.toList_append]
              have hl : (vs ++ nc.toList).length = (n + new.length) * (sz + 1) := by
                simp only [List.length_append, Array.length_toList, hncl, hvl, h2, Nat.add_mul]
              rw [← hl, List.take_left']
              rfl
            rw [this, List.flatten_append]
            exact hvs.append hnc
          · rw [List.flatten_append, List.all_append, hall', h1]; rfl
        split at h
        · -- there is room, for sure
          rename_i hroom
          split at h
          · rename_i hin
            obtain ⟨hro, hin⟩ := hin
            cases h
            subst hro
            have ha0 : a = pl.addr k 0 := by
              rcases haa with h | h
              · omega
              · exact h
            subst ha0
            have hrun := happ.room (by omega)
            have hpat := patched_rows h4 hr (show k + n ≤ rs.length by omega)
            have hfl := flatten_len hr
            have hb2 : (k + n) * (sz + 1) + new.flatten.length ≤ pl.tot * (sz + 1) := by
              rw [hfl, ← Nat.add_mul]
              exact Nat.mul_le_mul_right _ (by omega)
            obtain ⟨hst, hobj⟩ := obj_write (P := P) h5 hpat (by simp [setRows]; omega) hb2 hnc h1
            have hadr : (pl.addr k 0).add (n * (sz + 1)) = ⟨pl.block, pl.off + (k + n) * (sz + 1), none⟩ := by
              rw [addr_add0, h2]
              simp only [Addr.mk.injEq, and_true, true_and, Nat.add_mul]; omega
            simp only [hadr, hst, Result.andThen_ok] at hrun
            refine ⟨_, _, ρ, hrun, ?_, moves_set ha ho rfl rfl hp (setCells_one _ _ _ _) hobj⟩
            simp only [VR]
            exact ⟨pl, _, c', hp, hpz, rfl, hroom, hcc, hex, htot, .inr rfl⟩
          · cases h
        · rename_i hroom
          split at h
          · -- the room is known: a new row
            rename_i hx1
            cases h
            have hc' := hex hx1
            obtain ⟨newCap, hcap, cc, hccs, hcv, hco, hrun⟩ := grow ha (by omega)
            have hm := moves_rows ha.drew (c := cc) (t := e) (sz := sz + 1) (tot := newCap) hbr hco (by rw [List.length_append, hol]; exact hcv) (by rw [List.length_append, hol]; exact hcap) hccs
            refine ⟨_, _, _, hrun, ?_, (Moves.drew ha).trans hm⟩
            simp only [VR]
            exact ⟨_, _, _, Rho.add_same _ _ _, rfl, rfl, Nat.le_refl _, hcap, (by simp), (by simp), .inr (by simp [Pl.addr])⟩
          · split at h
            · rename_i hx0 hro
              cases h
              subst hro
              by_cases hgr : c' < n + new.length
              · obtain ⟨newCap, hcap, cc, hccs, hcv, hco, hrun⟩ := grow ha hgr
                have hk := moves_kill ha.drew l
                have hm := moves_rows hk.agree (c := cc) (t := e) (sz := sz + 1) (tot := newCap) hbr hco (by rw [List.length_append, hol]; exact hcv) (by rw [List.length_append, hol]; exact hcap) hccs
                refine ⟨_, _, _, hrun, ?_, ((Moves.drew ha).trans hk).trans hm⟩
                simp only [VR]
                exact ⟨_, _, _, Rho.add_same _ _ _, rfl, rfl, Nat.le_refl _, hcap, (by simp), (by simp), .inr (by simp [Pl.addr])⟩
              · have ha0 : a = pl.addr k 0 := by
                  rcases haa with h | h
                  · omega
                  · exact h
                subst ha0
                have hrun := happ.room (by omega)
                have hpat := patched_rows h4 hr (show k + n ≤ rs.length by omega)
                have hfl := flatten_len hr
                have hb2 : (k + n) * (sz + 1) + new.flatten.length ≤ pl.tot * (sz + 1) := by
                  rw [hfl, ← Nat.add_mul]
                  exact Nat.mul_le_mul_right _ (by omega)
                obtain ⟨hst, hobj⟩ := obj_write (P := P) h5 hpat (by simp [setRows]; omega) hb2 hnc h1
                have hadr : (pl.addr k 0).add (n * (sz + 1)) = ⟨pl.block, pl.off + (k + n) * (sz + 1), none⟩ := by
                  rw [addr_add0, h2]
                  simp only [Addr.mk.injEq, and_true, true_and, Nat.add_mul]; omega
                simp only [hadr, hst, Result.andThen_ok] at hrun
                have hpart := obj_part (m := n + new.length) hobj htot (by omega)
                rw [setRows_part hrl] at hpart
                have hle := Rho.le_add ha ⟨pl.block, pl.off + k * (sz + 1), sz + 1, c'⟩
                have hmv := moves_renew (pl' := ⟨pl.block, pl.off + k * (sz + 1), sz + 1, c'⟩) ha ho rfl rfl hp (setCells_one _ _ _ _) rfl (hpart.mono hle)
                refine ⟨_, _, _, hrun, ?_, hmv⟩
                simp only [VR]
                exact ⟨⟨pl.block, pl.off + k * (sz + 1), sz + 1, c'⟩, pl.addr k 0, c', Rho.add_same _ _ _, rfl, rfl, Nat.le_refl _, by omega, (by simp), (by simp), .inr (by simp [Pl.addr, h2])⟩
            · cases h
  | _ => cases h
set_option maxHeartbeats 1000000 in
theorem move_sound {o : Oper} {ev : Ev} {H H' : DH} {d : DV} {w : World} (h : moveD P o ev H = some (d, H')) {e : Operand → Value} (he : EvR ρ ev e) (ha : Agree ρ H w) :
    ∃ n v w' ρ', (execOp e o).run P w = .ok n w' ∧ (n = .value v ∨ (n = .skip ∧ v = undef)) ∧ VR ρ' d v ∧ Moves ρ H w ρ' H' w' := by
  have made : ∀ {s : Sem Value}, Made P ρ H w s d H' → (execOp e o = (do pure (.value (← s)))) → ∃ n v w' ρ', (execOp e o).run P w = .ok n w' ∧ (n = .value v ∨ (n = .skip ∧ v = undef)) ∧ VR ρ' d v ∧ Moves ρ H w ρ' H' w' := by
    rintro s ⟨v, w', ρ', h1, h2, h3⟩ heq
    refine ⟨.value v, v, w', ρ', ?_, .inl rfl, h2, h3⟩
    rw [heq, Sem.run_bind, h1]
    rfl
  have done : ∀ {s : Sem Unit} {w' : World}, s.run P w = .ok () w' → d = undefD → Moves ρ H w ρ H' w' → (execOp e o = (do s; pure .skip)) → ∃ n v w' ρ', (execOp e o).run P w = .ok n w' ∧ (n = .value v ∨ (n = .skip ∧ v = undef)) ∧ VR ρ' d v ∧ Moves ρ H w ρ' H' w' := by
    rintro s w' h1 hd h3 heq
    refine ⟨.skip, undef, w', ρ, ?_, .inr ⟨rfl, rfl⟩, by rw [hd]; simp [undefD, undef, VR, VRs], h3⟩
    rw [heq, Sem.run_bind, h1]
    rfl
  obtain ⟨dst, op, type, pos, after, guard⟩ := o
  unfold moveD at h
  simp only at h
  split at h
  · split at h
    · rename_i z hz; exact made (alloc_sound ha hz h) rfl
    · cases h
  · split at h
    · rename_i v hv; exact made (box_sound ha h (he _ _ hv) _) rfl
    · cases h
  · rename_i t n parts
    split at h
    · rename_i ps hps
      have hv := evParts_sound he hps
      have hb := buildSlice_sound (P := P) (vs := parts.map fun (i, x) => (i, e x)) ha h (by rw [Array.toList_map]; exact hv)
      refine made hb ?_
      simp only [execOp]
    · cases h
  · rename_i t a x
    split at h
    · rename_i p v hp hv
      cases hs : storeD P t H p v with
      | none => rw [hs] at h; cases h
      | some H1 =>
        rw [hs] at h
        cases h
        obtain ⟨w', h1, h2⟩ := store_sound (P := P) ha hs (he _ _ hp) (he _ _ hv)
        exact done h1 rfl h2 rfl
    · cases h
  · split at h
    · rename_i a b ha' hb; exact made (makeSlice_sound ha h (he _ _ ha') (he _ _ hb)) rfl
    · cases h
  · rename_i t r
    split at h
    · rename_i k el hu
      cases h
      exact made (makeMap_sound ha hu none (by simp)) rfl
    · rename_i k el x hu
      split at h
      · rename_i j n hx
        cases h
        have := he _ _ hx
        simp only [VR] at this
        exact made (makeMap_sound ha hu (some (e x)) (by intro v hv; cases hv; exact ⟨_, _, this⟩)) rfl
      · cases h
    · cases h
  · rename_i t m k x
    split at h
    · rename_i a b c ha' hb hc
      cases hs : updateD P t H a b c with
      | none => rw [hs] at h; cases h
      | some H1 =>
        rw [hs] at h
        cases h
        obtain ⟨w', h1, h2⟩ := update_sound (P := P) ha hs (he _ _ ha') (he _ _ hb) (he _ _ hc)
        exact done h1 rfl h2 rfl
    · cases h
  · rename_i t m k x
    split at h
    · rename_i a b c ha' hb hc
      cases hs : updateD P t H a b c with
      | none => rw [hs] at h; cases h
      | some H1 =>
        rw [hs] at h
        cases h
        obtain ⟨w', h1, h2⟩ := update_sound (P := P) ha hs (he _ _ ha') (he _ _ hb) (he _ _ hc)
        exact done h1 rfl h2 rfl
    · cases h
  · rename_i t m k
    split at h
    · rename_i a b ha' hb
      exact made (entry_sound ha h (he _ _ ha') (he _ _ hb)) rfl
    · cases h
  · rename_i t m k x
    split at h
    · rename_i a b c ha' hb hc
      cases hs : entryStoreD H a b c with
      | none => rw [hs] at h; cases h
      | some H1 =>
        rw [hs] at h
        cases h
        obtain ⟨w', h1, h2⟩ := entryStore_sound (P := P) (t := t) ha hs (he _ _ ha') (he _ _ hb) (he _ _ hc)
        exact done h1 rfl h2 rfl
    · cases h
  · rename_i t x
    split at h
    · rename_i s hu hx
      cases h
      have := he _ _ hx
      simp only [VR] at this
      refine made ?_ rfl
      rw [this]
      exact range_sound ha hu s
    · cases h
  · split at h
    · rename_i a ha'; exact made (next_sound ha h (he _ _ ha') _) rfl
    · cases h
  · rename_i s t x
    split at h
    · rename_i td el l hs ht hx
      split at h
      · rename_i hu8
        cases h
        have := he _ _ hx
        simp only [VR] at this
        refine made ?_ rfl
        rw [this]
        exact strBytes_sound ha hs ht hu8 l
      · cases h
    · cases h
  · rename_i args argTypes
    obtain ⟨args⟩ := args
    obtain ⟨argTypes⟩ := argTypes
    simp only at h
    split at h
    · rename_i s x st xt
      split at h
      · rename_i a b ha' hb
        cases hxt : P.underlying xt with
        | none => rw [hxt] at h; unfold appendD at h; split at h <;> simp [appendedD] at h
        | some td =>
          rw [hxt] at h
          refine made (s := Builtin.append_ #[st, xt] type #[e s, e x]) (append_sound ha hxt h (he _ _ ha') (he _ _ hb)) ?_
          simp [execOp, resolve, invoke, builtin]
      · cases h
    · cases h
  · rename_i args argTypes
    obtain ⟨args⟩ := args
    obtain ⟨argTypes⟩ := argTypes
    simp only at h
    split at h
    · rename_i m k t t2
      split at h
      · rename_i a b ha' hb
        cases hs : deleteD P t H a b with
        | none => rw [hs] at h; cases h
        | some H1 =>
          rw [hs] at h
          cases h
          obtain ⟨w', h1, h2⟩ := delete_sound (P := P) (ty := type) (t2 := t2) ha hs (he _ _ ha') (he _ _ hb)
          refine made (s := Builtin.delete_ #[t, t2] type #[e m, e k]) ⟨_, w', ρ, h1, by simp [undefD, VR, VRs], h2⟩ ?_
          simp [execOp, resolve, invoke, builtin]
      · cases h
    · cases h
  · rename_i args argTypes
    obtain ⟨args⟩ := args
    obtain ⟨argTypes⟩ := argTypes
    simp only at h
    split at h
    · rename_i x t
      split at h
      · rename_i a ha'
        cases hs : clearD P t H a with
        | none => rw [hs] at h; cases h
        | some H1 =>
          rw [hs] at h
          cases h
          obtain ⟨w', h1, h2⟩ := clear_sound (P := P) (ty := type) ha hs (he _ _ ha')
          refine made (s := Builtin.clear_ #[t] type #[e x]) ⟨_, w', ρ, h1, by simp [undefD, VR, VRs], h2⟩ ?_
          simp [execOp, resolve, invoke, builtin]
      · cases h
    · cases h
  · cases h
end
end Go.Det
