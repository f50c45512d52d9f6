/- How the heaps stand for each other behind a new block, behind a block written, behind a place given up. -/
import Derived.Test.YtphnddoneocfhaaD7
namespace Go.Det
set_option linter.unusedVariables false
set_option linter.unusedSimpArgs false

section
variable {P : Program} {ρ : Rho}

def Rho.add (ρ : Rho) (l : Nat) (pl : Pl) : Rho := fun m => if m = l then some pl else ρ m

theorem Rho.le_add {H : DH} {w : World} (ha : Agree ρ H w) (pl : Pl) : ρ.le (ρ.add H.next pl) := by
  intro l q hq
  have := ha.low l q hq
  unfold Rho.add
  rw [if_neg (by omega)]
  exact hq
theorem Rho.add_same (ρ : Rho) (l : Nat) (pl : Pl) : ρ.add l pl l = some pl := by simp [Rho.add]

theorem Agree.lt {H : DH} {w : World} (ha : Agree ρ H w) {l : Nat} {o : DObj} (h : H.obj l = some o) : l < H.next := by
  obtain ⟨pl, hp, _⟩ := ha.obj l o h
  exact ha.low l pl hp

/-- A new block. -/
theorem moves_new {H : DH} {w : World} (ha : Agree ρ H w) (o : Obj) (d : DObj) (pl : Pl) (hb : pl.block = w.heap.size) (h : ObjR (ρ.add H.next pl) pl (some o) d) :
    Moves ρ H w (ρ.add H.next pl) (H.new d) { w with heap := w.heap.push o } := by
  have hle := Rho.le_add ha pl
  have hget : ∀ k, k < w.heap.size → (w.heap.push o)[k]? = w.heap[k]? := fun k hk => by rw [Array.getElem?_push, if_neg (by omega)]
  have hlast : (w.heap.push o)[w.heap.size]? = some o := by simp
  refine ⟨hle, ⟨?_, ?_, ?_, ?_⟩, rfl, rfl, rfl, by simp, fun b hb' _ => hget b hb', ?_⟩
  · intro l q hq
    unfold Rho.add at hq
    split at hq
    · rename_i e; subst e; exact Nat.lt_succ_self _
    · exact Nat.lt_succ_of_lt (ha.low l q hq)
  · intro l q hq
    unfold Rho.add at hq
    simp only [Array.size_push]
    split at hq
    · cases hq; omega
    · have := ha.lies l q hq; omega
  · intro l x hx
    simp only [DH.new] at hx
    split at hx
    · rename_i e
      subst e
      cases hx
      exact ⟨pl, Rho.add_same _ _ _, by rw [hb, hlast]; exact h⟩
    · obtain ⟨q, hq, hr⟩ := ha.obj l x hx
      refine ⟨q, hle _ _ hq, ?_⟩
      simp only
      rw [hget _ (ha.lies l q hq)]
      exact hr.mono hle
  · intro l l' x x' q q' hne hx hx' hro hq hq'
    simp only [DH.new] at hx hx'
    unfold Rho.add at hq hq'
    split at hx
    · rename_i e
      rw [if_pos e] at hq
      cases hq
      rw [if_neg (by omega)] at hq' hx'
      have := ha.lies l' q' hq'
      omega
    · rename_i e
      rw [if_neg e] at hq
      split at hx'
      · rename_i e'
        rw [if_pos e'] at hq'
        cases hq'
        have := ha.lies l q hq
        omega
      · rename_i e'
        rw [if_neg e'] at hq'
        exact ha.apart l l' x x' q q' hne hx hx' hro hq hq'
  · rintro b ⟨l, x, q, hx, hro, hq, rfl⟩
    simp only [DH.new] at hx
    unfold Rho.add at hq
    split at hx
    · rename_i e; rw [if_pos e] at hq; cases hq; exact .inr (by omega)
    · rename_i e; rw [if_neg e] at hq; exact .inl ⟨l, x, q, hx, hro, hq, rfl⟩

/-- What another world is: as this one, but for one block. -/
structure OneBlock (w w' : World) (b : Nat) : Prop where
  os : w'.os = w.os
  tape : w'.tape = w.tape
  output : w'.output = w.output
  size : w'.heap.size = w.heap.size
  same : ∀ k, k ≠ b → w'.heap[k]? = w.heap[k]?

/-- A block of the reading's own, written. -/
theorem moves_set {H : DH} {w w' : World} (ha : Agree ρ H w) {l : Nat} {o o' : DObj} {pl : Pl} (ho : H.obj l = some o) (hro : o.ro = false) (hro' : o'.ro = false) (hp : ρ l = some pl) (hw : OneBlock w w' pl.block)
    (h : ObjR ρ pl w'.heap[pl.block]? o') : Moves ρ H w ρ (H.set l (some o')) w' := by
  refine ⟨Rho.le_refl _, ⟨fun m q hq => ha.low m q hq, fun m q hq => by rw [hw.size]; exact ha.lies m q hq, ?_, ?_⟩, hw.os, hw.tape, hw.output, Nat.le_of_eq hw.size.symm, ?_, ?_⟩
  · intro m x hx
    simp only [DH.set] at hx
    split at hx
    · rename_i e; subst e; cases hx; exact ⟨pl, hp, h⟩
    · rename_i e
      obtain ⟨q, hq, hr⟩ := ha.obj m x hx
      refine ⟨q, hq, ?_⟩
      rw [hw.same _ (fun e' => ha.apart l m o x pl q (fun e2 => e e2.symm) ho hx hro hp hq e'.symm)]
      exact hr
  · intro m m' x x' q q' hne hx hx' hr hq hq'
    simp only [DH.set] at hx hx'
    split at hx
    · rename_i e
      subst e
      rw [if_neg (fun e => hne e.symm)] at hx'
      rw [hp] at hq; cases hq
      exact ha.apart m m' o x' pl q' hne ho hx' hro hp hq'
    · split at hx'
      · rename_i e e'
        subst e'
        rw [hp] at hq'; cases hq'
        exact ha.apart m m' x o q pl hne hx ho hr hq hp
      · exact ha.apart m m' x x' q q' hne hx hx' hr hq hq'
  · intro b hb hn
    exact hw.same b fun e => hn ⟨l, o, pl, ho, hro, hp, e.symm⟩
  · rintro b ⟨m, x, q, hx, hr, hq, rfl⟩
    simp only [DH.set] at hx
    split at hx
    · rename_i e; subst e; rw [hp] at hq; cases hq; exact .inl ⟨m, o, pl, ho, hro, hp, rfl⟩
    · exact .inl ⟨m, x, q, hx, hr, hq, rfl⟩

/-- A place given up. -/
theorem moves_kill {H : DH} {w : World} (ha : Agree ρ H w) (l : Nat) : Moves ρ H w ρ (H.set l none) w := by
  refine ⟨Rho.le_refl _, ⟨fun m q hq => ha.low m q hq, ha.lies, ?_, ?_⟩, rfl, rfl, rfl, Nat.le_refl _, fun _ _ _ => rfl, ?_⟩
  · intro m x hx
    simp only [DH.set] at hx
    split at hx
    · cases hx
    · exact ha.obj m x hx
  · intro m m' x x' q q' hne hx hx' hr hq hq'
    simp only [DH.set] at hx hx'
    split at hx
    · cases hx
    · split at hx'
      · cases hx'
      · exact ha.apart m m' x x' q q' hne hx hx' hr hq hq'
  · rintro b ⟨m, x, q, hx, hr, hq, rfl⟩
    simp only [DH.set] at hx
    split at hx
    · cases hx
    · exact .inl ⟨m, x, q, hx, hr, hq, rfl⟩

/-- A place given up, and its block written and told under a new one. -/
theorem moves_renew {H : DH} {w w' : World} (ha : Agree ρ H w) {l : Nat} {o o' : DObj} {pl pl' : Pl} (ho : H.obj l = some o) (hro : o.ro = false) (hro' : o'.ro = false) (hp : ρ l = some pl) (hw : OneBlock w w' pl.block) (hb : pl'.block = pl.block)
    (h : ObjR (ρ.add H.next pl') pl' w'.heap[pl.block]? o') : Moves ρ H w (ρ.add H.next pl') ((H.set l none).new o') w' := by
  have hle := Rho.le_add ha pl'
  refine ⟨hle, ⟨?_, ?_, ?_, ?_⟩, hw.os, hw.tape, hw.output, Nat.le_of_eq hw.size.symm, ?_, ?_⟩
  · intro m q hq
    unfold Rho.add at hq
    show m < H.next + 1
    split at hq
    · rename_i e; omega
    · exact Nat.lt_succ_of_lt (ha.low m q hq)
  · intro m q hq
    unfold Rho.add at hq
    rw [hw.size]
    split at hq
    · cases hq; rw [hb]; exact ha.lies l pl hp
    · exact ha.lies m q hq
  · intro m x hx
    replace hx : (if m = H.next then some o' else if m = l then none else H.obj m) = some x := hx
    split at hx
    · rename_i e; subst e; cases hx; exact ⟨pl', Rho.add_same _ _ _, by rw [hb]; exact h⟩
    · split at hx
      · cases hx
      · rename_i e1 e
        obtain ⟨q, hq, hr⟩ := ha.obj m x hx
        refine ⟨q, hle _ _ hq, ?_⟩
        rw [hw.same _ (fun e' => ha.apart l m o x pl q (fun e2 => e e2.symm) ho hx hro hp hq e'.symm)]
        exact hr.mono hle
  · intro m m' x x' q q' hne hx hx' hr hq hq'
    replace hx : (if m = H.next then some o' else if m = l then none else H.obj m) = some x := hx
    replace hx' : (if m' = H.next then some o' else if m' = l then none else H.obj m') = some x' := hx'
    unfold Rho.add at hq hq'
    split at hx
    · rename_i e
      rw [if_pos e] at hq; cases hq
      rw [if_neg (by omega)] at hx' hq'
      split at hx'
      · cases hx'
      · rename_i e'
        rw [hb]
        exact ha.apart l m' o x' pl q' (fun e2 => e' e2.symm) ho hx' hro hp hq'
    · rename_i e
      rw [if_neg e] at hq
      split at hx
      · cases hx
      · rename_i e1
        split at hx'
        · rename_i e2
          rw [if_pos e2] at hq'; cases hq'
          rw [hb]
          exact ha.apart m l x o q pl e1 hx ho hr hq hp
        · rename_i e2
          rw [if_neg e2] at hq'
          split at hx'
          · cases hx'
          · exact ha.apart m m' x x' q q' hne hx hx' hr hq hq'
  · intro b hb' hn
    exact hw.same b fun e => hn ⟨l, o, pl, ho, hro, hp, e.symm⟩
  · rintro b ⟨m, x, q, hx, hr, hq, rfl⟩
    replace hx : (if m = H.next then some o' else if m = l then none else H.obj m) = some x := hx
    unfold Rho.add at hq
    split at hx
    · rename_i e; rw [if_pos e] at hq; cases hq; exact .inl ⟨l, o, pl, ho, hro, hp, hb.symm⟩
    · rename_i e
      rw [if_neg e] at hq
      split at hx
      · cases hx
      · exact .inl ⟨m, x, q, hx, hr, hq, rfl⟩

/-! #### cells set -/
theorem setCell_block (w : World) (b o : Nat) (v : Value) (k : Nat) (hk : k ≠ b) : (w.setCell ⟨b, o, none⟩ v).heap[k]? = w.heap[k]? := by
  simp only [World.setCell, Array.getElem?_modify]
  rw [if_neg (fun e => hk e.symm)]

theorem setCells_one (b : Nat) : ∀ (vs : List Value) (o : Nat) (w : World), OneBlock w (w.setCells b o vs) b
  | [], o, w => ⟨rfl, rfl, rfl, rfl, fun _ _ => rfl⟩
  | v :: r, o, w => by
    have ih := setCells_one b r (o + 1) (w.setCell ⟨b, o, none⟩ v)
    exact ⟨ih.os, ih.tape, ih.output, ih.size.trans (by simp [World.setCell]), fun k hk => (ih.same k hk).trans (setCell_block w b o v k hk)⟩

theorem setCells_at (b : Nat) : ∀ (vs : List Value) (o : Nat) (w : World) {c : Array Value} {t : TypeId} {fr : Nat × Nat}, w.heap[b]? = some (.cells c t fr) → o + vs.length ≤ c.size →
    ∃ c', (w.setCells b o vs).heap[b]? = some (.cells c' t fr) ∧ c'.size = c.size ∧ ∀ k, c'[k]? = if o ≤ k ∧ k < o + vs.length then vs[k - o]? else c[k]?
  | [], o, w, c, t, fr, h, hl => ⟨c, h, rfl, fun k => by rw [if_neg (by simp)]⟩
  | v :: r, o, w, c, t, fr, h, hl => by
    simp only [List.length_cons] at hl ⊢
    have h1 : (w.setCell ⟨b, o, none⟩ v).heap[b]? = some (.cells (c.setIfInBounds o v) t fr) := by
      simp [World.setCell, Array.getElem?_modify, h]
    obtain ⟨c', hc', hs, hk⟩ := setCells_at b r (o + 1) _ h1 (by simp; omega)
    refine ⟨c', hc', by simpa using hs, fun k => ?_⟩
    rw [hk k]
    by_cases e : o + 1 ≤ k ∧ k < o + 1 + r.length
    · rw [if_pos e, if_pos (by omega)]
      have : k - o = (k - (o + 1)) + 1 := by omega
      rw [this]; rfl
    · rw [if_neg e, Array.getElem?_setIfInBounds]
      by_cases e2 : o = k
      · subst e2
        rw [if_pos rfl, if_pos (by omega), if_pos (by omega)]
        simp
      · rw [if_neg e2, if_neg (by omega)]

/-- Rows in which some cells, told one behind the other, stand in place of what was there. -/
def Patched (rs rs' : List (List DV)) (sz base : Nat) (ds : List DV) : Prop :=
  ∀ i r', rs'[i]? = some r' → r'.length = sz ∧ ∀ j d, r'[j]? = some d → if base ≤ i * sz + j ∧ i * sz + j < base + ds.length then ds[i * sz + j - base]? = some d else ∃ r, rs[i]? = some r ∧ r[j]? = some d

theorem obj_write {pl : Pl} {w : World} {sz base : Nat} {rs rs' : List (List DV)} {ds : List DV} {vs : List Value} (h : ObjR ρ pl w.heap[pl.block]? (.rows false sz rs)) (hp : Patched rs rs' sz base ds) (hl : rs'.length ≤ pl.tot) (hb : base + ds.length ≤ pl.tot * sz)
    (hv : VRs ρ ds vs) (h1 : ds.all DV.one = true) :
    (storeCells ⟨pl.block, pl.off + base, none⟩ vs).run P w = .ok () (w.setCells pl.block (pl.off + base) vs) ∧ ObjR ρ pl (w.setCells pl.block (pl.off + base) vs).heap[pl.block]? (.rows false sz rs') := by
  obtain ⟨hs, htot, hrow, hloose⟩ := h
  obtain ⟨c, t, lo, hi, hblk, hsz, hfree⟩ := hloose rfl
  have hlen := VRs.length hv
  obtain ⟨c', hc', hcs, hck⟩ := setCells_at pl.block vs (pl.off + base) w hblk (by omega)
  constructor
  · have := run_storeCells_cells (P := P) pl.block (pl.off + base) vs 0 w ?_ ?_ ?_
    · simpa using this
    · intro j hj
      rw [cell?_eq, hblk]
      simp only [cellAt]
      have : pl.off + base + 0 + j < c.size := by omega
      rw [Array.getElem?_eq_getElem this]
      rfl
    · intro j hj
      simp only [World.frozen?, hblk]
      have := hfree (pl.off + base + 0 + j) (by omega)
      simpa using this
    · intro v hv'
      obtain ⟨j, hj, rfl⟩ := List.getElem_of_mem hv'
      have hj' : j < ds.length := by omega
      obtain ⟨y, hy, hr⟩ := VRs.get j hv (List.getElem?_eq_getElem hj')
      rw [List.getElem?_eq_getElem hj] at hy
      cases hy
      have := VR.one hr (all_get h1 (List.getElem?_eq_getElem hj'))
      cases hvj : vs[j] <;> simp_all [oneV, Value.oneCell']
  · refine ⟨hs, hl, ?_, fun _ => ⟨c', t, lo, hi, hc', by omega, hfree⟩⟩
    intro i r hr
    obtain ⟨h2, h3⟩ := hp i r hr
    refine ⟨h2, fun j d hd => ?_⟩
    have h4 := h3 j d hd
    rw [hc']
    unfold CR cellAt
    simp only [hck]
    split at h4
    · rename_i hin
      obtain ⟨y, hy, hr'⟩ := VRs.get _ hv h4
      refine ⟨all_get h1 h4, y, ?_, hr'⟩
      rw [if_pos (by omega)]
      rw [← hy]
      congr 1
      omega
    · rename_i hout
      obtain ⟨r0, hr0, hd0⟩ := h4
      obtain ⟨_, hcr⟩ := hrow i r0 hr0
      obtain ⟨ho, cc, hcc, hrr⟩ := hcr j d hd0
      refine ⟨ho, cc, ?_, hrr⟩
      rw [if_neg (by omega)]
      rw [hblk] at hcc
      exact hcc

theorem row_apart {i i' sz o n j : Nat} (hne : i' ≠ i) (hj : j < sz) (ho : o + n ≤ sz) : ¬ (i * sz + o ≤ i' * sz + j ∧ i' * sz + j < i * sz + o + n) := by
  rintro ⟨h1, h2⟩
  rcases Nat.lt_or_gt_of_ne hne with h | h
  · have : (i' + 1) * sz ≤ i * sz := Nat.mul_le_mul_right _ h
    rw [Nat.add_mul] at this
    omega
  · have : (i + 1) * sz ≤ i' * sz := Nat.mul_le_mul_right _ h
    rw [Nat.add_mul] at this
    omega

theorem patched_row {rs rs' : List (List DV)} {sz i o : Nat} {vs : List DV} (hsz : ∀ (i : Nat) (r : List DV), rs[i]? = some r → r.length = sz) (h : setRow rs i o vs = some rs') : Patched rs rs' sz (i * sz + o) vs ∧ rs'.length = rs.length ∧ i < rs.length ∧ o + vs.length ≤ sz ∧ vs.all DV.one = true := by
  unfold setRow at h
  split at h
  · rename_i r hr
    split at h
    · rename_i hc
      cases h
      have hrl := hsz i r hr
      have hi : i < rs.length := (List.getElem?_eq_some_iff.mp hr).1
      refine ⟨?_, by simp, hi, by omega, hc.2⟩
      intro i' r' hr'
      rw [List.getElem?_set] at hr'
      by_cases e : i = i'
      · subst e
        rw [if_pos rfl, if_pos hi] at hr'
        cases hr'
        refine ⟨by rw [splice_length _ _ _ hc.1, hrl], fun j d hd => ?_⟩
        rw [splice_get _ _ _ _ hc.1] at hd
        by_cases e2 : o ≤ j ∧ j < o + vs.length
        · rw [if_pos e2] at hd
          rw [if_pos (by omega)]
          rw [← hd]
          congr 1
          omega
        · rw [if_neg e2] at hd
          rw [if_neg (by omega)]
          exact ⟨r, hr, hd⟩
      · rw [if_neg e] at hr'
        have hl' := hsz i' r' hr'
        refine ⟨hl', fun j d hd => ?_⟩
        have hj : j < sz := by rw [← hl']; exact (List.getElem?_eq_some_iff.mp hd).1
        rw [if_neg (row_apart (fun e' => e e'.symm) hj (by omega))]
        exact ⟨r', hr', hd⟩
    · cases h
  · cases h

theorem flatten_get {sz : Nat} : ∀ {new : List (List DV)}, (∀ r ∈ new, r.length = sz) → ∀ (i j : Nat), j < sz → new.flatten[i * sz + j]? = (new[i]?).bind (·[j]?)
  | [], _, i, j, _ => by simp
  | r :: new, h, i, j, hj => by
    have hr := h r (by simp)
    cases i with
    | zero =>
      rw [List.flatten_cons, Nat.zero_mul, Nat.zero_add, List.getElem?_append_left (by omega)]
      simp
    | succ i =>
      rw [List.flatten_cons, List.getElem?_append_right (by rw [hr, Nat.add_mul]; omega)]
      have : (i + 1) * sz + j - r.length = i * sz + j := by rw [hr, Nat.add_mul]; omega
      rw [this, flatten_get (fun r hr => h r (by simp [hr])) i j hj]
      simp

theorem flatten_len {sz : Nat} : ∀ {new : List (List DV)}, (∀ r ∈ new, r.length = sz) → new.flatten.length = new.length * sz
  | [], _ => by simp
  | r :: new, h => by
    rw [List.flatten_cons, List.length_append, h r (by simp), flatten_len (fun r hr => h r (by simp [hr])), List.length_cons, Nat.add_mul]
    omega

theorem patched_rows {rs new : List (List DV)} {sz i : Nat} (hsz : ∀ (i : Nat) (r : List DV), rs[i]? = some r → r.length = sz) (hn : ∀ r ∈ new, r.length = sz) (hi : i ≤ rs.length) : Patched rs (setRows rs i new) sz (i * sz) new.flatten := by
  intro i' r' hr'
  have hfl := flatten_len hn
  have hmin : min i rs.length = i := by omega
  unfold setRows at hr'
  rw [List.getElem?_append, List.getElem?_append] at hr'
  simp only [List.length_take, hmin, List.getElem?_take, List.getElem?_drop] at hr'
  by_cases h1 : i' < i
  · rw [if_pos h1, if_pos h1] at hr'
    have hl' := hsz _ _ hr'
    refine ⟨hl', fun j d hd => ?_⟩
    have hj : j < sz := by rw [← hl']; exact (List.getElem?_eq_some_iff.mp hd).1
    rw [if_neg]
    · exact ⟨r', hr', hd⟩
    · rintro ⟨h2, _⟩
      have : (i' + 1) * sz ≤ i * sz := Nat.mul_le_mul_right _ h1
      rw [Nat.add_mul] at this
      omega
  · rw [if_neg h1] at hr'
    by_cases h2 : i' - i < new.length
    · rw [if_pos h2] at hr'
      have hl' := hn r' (List.mem_of_getElem? hr')
      refine ⟨hl', fun j d hd => ?_⟩
      have hj : j < sz := by rw [← hl']; exact (List.getElem?_eq_some_iff.mp hd).1
      have e : i' * sz + j = i * sz + ((i' - i) * sz + j) := by
        have : i' = i + (i' - i) := by omega
        conv => lhs; rw [this]
        rw [Nat.add_mul]; omega
      have hlt : (i' - i) * sz + j < new.length * sz := by
        have : (i' - i + 1) * sz ≤ new.length * sz := Nat.mul_le_mul_right _ h2
        rw [Nat.add_mul] at this
        omega
      rw [if_pos (by omega)]
      rw [e, Nat.add_sub_cancel_left, flatten_get hn _ _ hj, hr']
      exact hd
    · rw [if_neg h2] at hr'
      have e : i + new.length + (i' - i - new.length) = i' := by omega
      rw [e] at hr'
      have hl' := hsz _ _ hr'
      refine ⟨hl', fun j d hd => ?_⟩
      rw [if_neg]
      · exact ⟨r', hr', hd⟩
      · rintro ⟨_, h3⟩
        have : (i + new.length) * sz ≤ i' * sz := Nat.mul_le_mul_right _ (by omega)
        rw [Nat.add_mul] at this
        omega

end
end Go.Det
