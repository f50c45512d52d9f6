/- The operations that make memory, or write. -/
import Derived.Test.YtphnddoneocfhaaD8
import Derived.IntWalk
namespace Go.Det
set_option linter.unusedVariables false
set_option linter.unusedSimpArgs false

section
variable {P : Program} {ρ : Rho}

/-- A row of cells made: it stands for rows. -/
theorem obj_new {c : Array Value} {t : TypeId} {fr : Nat × Nat} {sz tot b : Nat} {rs : List (List DV)} (hr : ∀ r ∈ rs, r.length = sz) (h1 : rs.flatten.all DV.one = true) (hv : VRs ρ rs.flatten (c.toList.take (rs.length * sz)))
    (ht : rs.length ≤ tot) (hc : tot * sz ≤ c.size) (hf : ∀ k, k < c.size → ¬ (fr.1 ≤ k ∧ k < fr.2)) : ObjR ρ ⟨b, 0, sz, tot⟩ (some (.cells c t fr)) (.rows false sz rs) := by
  refine ⟨rfl, ht, fun i r hir => ⟨hr r (List.mem_of_getElem? hir), fun j d hd => ?_⟩, fun _ => ⟨c, t, fr.1, fr.2, rfl, by simpa using hc, fun k hk => hf k (by simp at hk; omega)⟩⟩
  have hj : j < sz := by rw [← hr r (List.mem_of_getElem? hir)]; exact (List.getElem?_eq_some_iff.mp hd).1
  have hg : rs.flatten[i * sz + j]? = some d := by rw [flatten_get hr i j hj, hir]; exact hd
  obtain ⟨y, hy, hyr⟩ := VRs.get _ hv hg
  refine ⟨all_get h1 hg, y, ?_, hyr⟩
  rw [List.getElem?_take] at hy
  split at hy
  · simp only [cellAt]
    rw [Array.getElem?_toList] at hy
    simpa using hy
  · cases hy

theorem moves_rows {H : DH} {w : World} (ha : Agree ρ H w) {c : Array Value} {t : TypeId} {sz tot : Nat} {rs : List (List DV)} (hr : ∀ r ∈ rs, r.length = sz) (h1 : rs.flatten.all DV.one = true) (hv : VRs ρ rs.flatten (c.toList.take (rs.length * sz)))
    (ht : rs.length ≤ tot) (hc : tot * sz ≤ c.size) : Moves ρ H w (ρ.add H.next ⟨w.heap.size, 0, sz, tot⟩) (H.new (.rows false sz rs)) { w with heap := w.heap.push (.cells c t (0, 0)) } :=
  moves_new ha _ _ ⟨w.heap.size, 0, sz, tot⟩ rfl (obj_new hr h1 (VRs.mono (Rho.le_add ha _) _ _ hv) ht hc (by intro k _; simp))

theorem newVar_sound {H H' : DH} {w : World} (ha : Agree ρ H w) {d r : DV} {v : Value} (h : newVarD H d = some (r, H')) (hv : VR ρ d v) (t : TypeId) :
    ∃ a w' ρ', (newVar t v).run P w = .ok a w' ∧ VR ρ' r (.pointer (some a)) ∧ Moves ρ H w ρ' H' w' := by
  unfold newVarD at h
  split at h
  · rename_i h1
    cases h
    have hc := VR.cells hv
    have hm := moves_rows ha (c := v.cells) (t := t) (sz := d.cells.length) (tot := 1) (rs := [d.cells]) (by simp) (by simpa using h1) (by
      have hl := VRs.length hc
      simp only [List.flatten_cons, List.flatten_nil, List.append_nil, List.length_cons, List.length_nil, Nat.zero_add, Nat.one_mul]
      rw [← hl, List.take_length]; exact hc) (by simp) (by have := VRs.length hc; simp at this; omega)
    refine ⟨⟨w.heap.size, 0, none⟩, _, _, rfl, ?_, hm⟩
    simp only [VR]
    exact ⟨_, Rho.add_same _ _ _, by simp [Pl.addr]⟩
  · cases h

theorem zero_cells {zd : List DV} {zc : Array Value} (hz : VRs ρ zd zc.toList) {sz : Nat} (hs : zd.length = sz + 1) (n : Nat) : VRs ρ (List.replicate n zd).flatten ((Array.range (n * (sz + 1))).map (zc[· % zc.size]!)).toList := by
  have hl := VRs.length hz
  simp only [Array.length_toList] at hl
  have hr : ∀ r ∈ List.replicate n zd, r.length = sz + 1 := by intro r hr; rw [(List.mem_replicate.mp hr).2]; exact hs
  refine VRs.of_get ?_ fun k x y hx hy => ?_
  · simp only [Array.toList_map, List.length_map, Array.toList_range, List.length_range]
    rw [flatten_len hr, List.length_replicate]
  · have hk : k < n * (sz + 1) := by
      have := (List.getElem?_eq_some_iff.mp hx).1
      rwa [flatten_len hr, List.length_replicate] at this
    have e : k = (k / (sz + 1)) * (sz + 1) + k % (sz + 1) := by rw [Nat.mul_comm]; exact (Nat.div_add_mod k (sz + 1)).symm
    have hm : k % (sz + 1) < sz + 1 := Nat.mod_lt _ (by omega)
    rw [e, flatten_get hr _ _ hm] at hx
    have hdiv : k / (sz + 1) < n := (Nat.div_lt_iff_lt_mul (by omega)).mpr hk
    rw [List.getElem?_replicate, if_pos hdiv] at hx
    simp only [Option.bind_some] at hx
    obtain ⟨y', hy', hr'⟩ := VRs.get _ hz hx
    simp only [Array.toList_map, Array.toList_range, List.getElem?_map, List.getElem?_range hk, Option.map_some, Option.some.injEq] at hy
    rw [Array.getElem?_toList] at hy'
    have : zc[k % zc.size]! = y' := by
      rw [hl, hs]
      rw [getElem!_def, hy']
    rw [← hy, this]
    exact hr'

theorem wrap_small {n : Int} (h0 : 0 ≤ n) (h1 : n ≤ 2147483648) : IntKind.i64.wrap n = n := IntWalk.i64_in n ⟨by omega, by omega⟩

/-- An operation that made or wrote: what it comes to. -/
def Made (P : Program) (ρ : Rho) (H : DH) (w : World) (s : Sem Value) (d : DV) (H' : DH) : Prop :=
  ∃ v w' ρ', s.run P w = .ok v w' ∧ VR ρ' d v ∧ Moves ρ H w ρ' H' w'

theorem box_sound {H H' : DH} {w : World} (ha : Agree ρ H w) {d r : DV} {v : Value} (h : newVarD H d = some (r, H')) (hv : VR ρ d v) (t : TypeId) : Made P ρ H w (Instr.box t v) r H' := by
  obtain ⟨a, w', ρ', h1, h2, h3⟩ := newVar_sound (P := P) ha h hv t
  exact ⟨_, w', ρ', by simp [Instr.box, h1], h2, h3⟩

theorem alloc_sound {H H' : DH} {w : World} (ha : Agree ρ H w) {e : TypeId} {z r : DV} (hz : zeroT P e = some z) (h : newVarD H z = some (r, H')) : Made P ρ H w (Instr.alloc e true (.tuple #[])) r H' := by
  obtain ⟨zv, hzr, hzv⟩ := r_zero hz ρ w
  obtain ⟨a, w', ρ', h1, h2, h3⟩ := newVar_sound (P := P) ha h hzv e
  exact ⟨_, w', ρ', by simp [Instr.alloc, hzr, h1], h2, h3⟩

theorem splice_flat {rs : List (List DV)} {sz i : Nat} {vs : List DV} (hr : ∀ r ∈ rs, r.length = sz) (hi : i < rs.length) (hv : vs.length = sz) : (rs.set i vs).flatten = splice rs.flatten (i * sz) vs := by
  induction rs generalizing i with
  | nil => simp at hi
  | cons r rs ih =>
    have hrl := hr r (by simp)
    have hfl := flatten_len (fun r' hr' => hr r' (by simp [hr']) : ∀ r' ∈ rs, r'.length = sz)
    cases i with
    | zero =>
      simp only [List.set_cons_zero, List.flatten_cons, Nat.zero_mul, splice, List.take_zero, List.nil_append, Nat.zero_add]
      rw [List.drop_append_of_le_length (by omega), List.drop_eq_nil_of_le (by omega), List.nil_append]
    | succ i =>
      simp only [List.set_cons_succ, List.flatten_cons]
      rw [ih (fun r' hr' => hr r' (by simp [hr'])) (by simpa using hi)]
      unfold splice
      have e1 : (i + 1) * sz = r.length + i * sz := by rw [hrl, Nat.add_mul]; omega
      rw [e1, List.take_length_add_append, List.append_assoc]
      congr 2
      rw [Nat.add_assoc, List.drop_length_add_append]

theorem set_len {rs : List (List DV)} {sz i : Nat} {vs : List DV} (hr : ∀ r ∈ rs, r.length = sz) (hv : vs.length = sz) : ∀ r ∈ rs.set i vs, r.length = sz := by
  intro r hm
  rcases List.mem_or_eq_of_mem_set hm with h | h
  · exact hr r h
  · rw [h]; exact hv

theorem flat_all {rs : List (List DV)} : rs.flatten.all DV.one = rs.all (fun r => r.all DV.one) := by
  induction rs with
  | nil => rfl
  | cons r rs ih => simp [List.all_append, ih]

theorem buildRows_sound {sz : Nat} : ∀ {parts : List (Nat × DV)} {vs : List (Nat × Value)} {rs rs' : List (List DV)} {cells : Array Value}, buildRows sz rs parts = some rs' → PartsR ρ parts vs → (∀ r ∈ rs, r.length = sz) → VRs ρ rs.flatten cells.toList → rs.flatten.all DV.one = true →
    ∃ cells', Instr.fill (fun i => some (i * sz, sz)) cells vs = some cells' ∧ VRs ρ rs'.flatten cells'.toList ∧ rs'.flatten.all DV.one = true ∧ (∀ r ∈ rs', r.length = sz) ∧ rs'.length = rs.length
  | [], _, rs, rs', cells, h, hv, hr, hc, h1 => by
    simp only [PartsR] at hv
    subst hv
    simp only [buildRows] at h
    cases h
    exact ⟨cells, rfl, hc, h1, hr, rfl⟩
  | (i, d) :: ps, _, rs, rs', cells, h, hv, hr, hc, h1 => by
    simp only [PartsR] at hv
    obtain ⟨v, r, rfl, hd, hps⟩ := hv
    simp only [buildRows] at h
    split at h
    · rename_i hcond
      obtain ⟨hi, hs, hall⟩ := hcond
      have hdc := VR.cells hd
      have hl1 := VRs.length hdc
      have hl2 := VRs.length hc
      have hfl := flatten_len hr
      simp only [Array.length_toList] at hl1 hl2
      have hle : i * sz + sz ≤ rs.length * sz := by
        have := Nat.mul_le_mul_right sz (show i + 1 ≤ rs.length from hi)
        rw [Nat.add_mul] at this; omega
      have hsp := splice_sound hc hdc (i * sz) (by omega)
      rw [← splice_flat hr hi hs] at hsp
      have hall' : (rs.set i d.cells).flatten.all DV.one = true := by
        rw [splice_flat hr hi hs]
        exact splice_all _ h1 hall
      obtain ⟨cells', hf, h2, h3, h4, h5⟩ := buildRows_sound h hps (set_len hr hs) hsp hall'
      refine ⟨cells', ?_, h2, h3, h4, by simpa using h5⟩
      simp only [Instr.fill]
      have hn : ¬ ((decide (v.cells.size ≠ sz) || decide (i * sz + v.cells.size > cells.size)) = true) := by simp; omega
      rw [if_neg hn]
      exact hf
    · cases h

theorem buildSlice_sound {H H' : DH} {w : World} (ha : Agree ρ H w) {t : TypeId} {n : Nat} {ps : List (Nat × DV)} {vs : Array (Nat × Value)} {d : DV} (h : buildSliceD P t n H ps = some (d, H')) (hv : PartsR ρ ps vs.toList) : Made P ρ H w (Instr.buildSlice t n vs) d H' := by
  unfold buildSliceD at h
  split at h
  · rename_i e hu
    split at h
    · rename_i z sz hz hs
      split at h
      · rename_i hc
        obtain ⟨hzl, hz1, hlim⟩ := hc
        cases hb : buildRows (sz + 1) (zerosD z.cells n) ps with
        | none => rw [hb] at h; cases h
        | some rs =>
          rw [hb] at h
          cases h
          obtain ⟨zv, hzr, hzv⟩ := r_zero hz ρ w
          have hzc := zero_cells (VR.cells hzv) hzl n
          have hrl : ∀ r ∈ zerosD z.cells n, r.length = sz + 1 := by intro r hr; rw [(List.mem_replicate.mp hr).2]; exact hzl
          obtain ⟨cells', hf, h2, h3, h4, h5⟩ := buildRows_sound hb hv hrl hzc (by
            rw [flat_all, List.all_eq_true]; intro r hr; rw [(List.mem_replicate.mp hr).2]; exact hz1)
          have hlen : rs.length = n := by rw [h5]; simp [zerosD]
          have hcl : cells'.size = n * (sz + 1) := by
            have := VRs.length h2
            rw [flatten_len h4, hlen] at this
            simpa using this
          have hm := moves_rows ha (c := cells') (t := e) (sz := sz + 1) (tot := n) h4 h3 (by
            rw [hlen, ← hcl]
            have : cells'.toList.take cells'.size = cells'.toList := by rw [← Array.length_toList, List.take_length]
            rw [this]; exact h2) (by omega) (by omega)
          refine ⟨.slice (some ⟨w.heap.size, 0, none⟩) n n, _, _, ?_, ?_, hm⟩
          · replace hs : sizeT P e = some (sz + 1) := hs
            have hnot : ¬ (n * (sz + 1) > 2 ^ 24) := by omega
            simp only [Instr.buildSlice, Sem.run_bind, r_underlying hu, Result.andThen_ok, r_sizeOf hs]
            rw [if_neg hnot]
            by_cases hn0 : n * (sz + 1) = 0
            · have r0 : Array.range 0 = (#[] : Array Nat) := by apply Array.ext'; simp
              rw [hn0, r0] at hf
              simp only [Array.map_empty] at hf
              simp [hn0, hf, newRow, r0]
            · simp [hn0, hzr, hf, newRow]
          · simp only [VR]
            exact ⟨_, _, _, Rho.add_same _ _ _, rfl, rfl, Nat.le_refl _, Nat.le_refl _, fun _ => rfl, by simp, .inr (by simp [Pl.addr])⟩
      · cases h
    · cases h
  · cases h
end
end Go.Det
