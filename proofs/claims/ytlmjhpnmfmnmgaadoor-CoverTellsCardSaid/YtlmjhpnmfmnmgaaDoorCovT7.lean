/- What a call is handed: bools, whole numbers, strings, slices, structs, arrays, at whatever depth: as values and read-only rows of the deterministic reading. -/
import Derived.Carry
import Derived.OpenShut
import Derived.ChangeOld
import Derived.DataReads
import Derived.SizedLaws
import Derived.ProofKit
import Derived.Test.YtlmjhpnmfmnmgaaDoorCovT6
namespace Go.Det
set_option linter.unusedVariables false
set_option linter.unusedSimpArgs false
section
variable {P : Program} {A : Type} {enc : TypeId × Value → A} {W : World}
/-- A row of cells is one of a type. -/
inductive Typed (P : Program) (H : DH) : TypeId → List DV → Prop
  | bool {t : TypeId} {b : Bool} : P.underlying t = some .bool → Typed P H t [.bool b]
  | int {t : TypeId} {k : IntKind} {n : Int} : P.underlying t = some (.int k) → (Lit.int k n).wf = true → Typed P H t [.int k n]
  | str {t : TypeId} {s : List UInt8} : P.underlying t = some .string → s.length ≤ maxLen → Typed P H t [.str s]
  | nil {t e : TypeId} : P.underlying t = some (.slice e) → Typed P H t [.sl none 0 0 true]
  | slice {t e : TypeId} {l n : Nat} {rs : List (List DV)} : P.underlying t = some (.slice e) → H.obj l = some (.rows true (P.cellsOf e) rs) → n ≤ rs.length → rs.length ≤ maxLen →
      (∀ (i : Nat) (r : List DV), rs[i]? = some r → Typed P H e r) → Typed P H t [.sl (some (l, 0, P.cellsOf e)) n rs.length true]
  | struct {t : TypeId} {fs : Array Field} {cs : List DV} : P.underlying t = some (.struct fs) → cs.length = P.cellsOf t → (∀ f ∈ fs.toList, Typed P H f.type ((cs.drop f.offset).take (P.cellsOf f.type))) → Typed P H t cs
  | array {t e : TypeId} {m : Nat} {cs : List DV} : P.underlying t = some (.array m e) → cs.length = m * P.cellsOf e → (∀ i, i < m → Typed P H e ((cs.drop (i * P.cellsOf e)).take (P.cellsOf e))) → Typed P H t cs
theorem Typed.mono {H H' : DH} (h : ∀ l o, H.obj l = some o → H'.obj l = some o) {t : TypeId} {cs : List DV} (k : Typed P H t cs) : Typed P H' t cs := by
  induction k with
  | bool a => exact .bool a
  | int a b => exact .int a b
  | str a b => exact .str a b
  | nil a => exact .nil a
  | slice a b c d _ ih => exact .slice a (h _ _ b) c d ih
  | struct a b _ ih => exact .struct a b ih
  | array a b _ ih => exact .array a b ih
def tiles (P : Program) : List Field → Nat → Nat → Bool
  | [], off, size => off == size
  | f :: r, off, size => f.offset == off && tiles P r (off + P.cellsOf f.type) size
/-- The types that are read so. -/
def okTy (P : Program) : Nat → TypeId → Bool
  | 0, _ => false
  | n + 1, t => match P.underlying t with
    | some .bool | some (.int _) | some .string => true
    | some (.slice e) => P.cellsOf e != 0 && okTy P n e
    | some (.struct fs) => tiles P fs.toList 0 (P.cellsOf t) && fs.toList.all fun f => okTy P n f.type
    | some (.array m e) => P.cellsOf t == m * P.cellsOf e && okTy P n e
    | _ => false
theorem tiles_le : ∀ (l : List Field) (off size : Nat), tiles P l off size = true → off ≤ size
  | [], off, size, h => by simp [tiles] at h; omega
  | f :: r, off, size, h => by
    simp only [tiles, Bool.and_eq_true] at h
    have := tiles_le r _ _ h.2
    omega
theorem tiles_off : ∀ (l : List Field) (off size : Nat), tiles P l off size = true → ∀ f ∈ l, off ≤ f.offset
  | [], off, size, h, f, hf => by cases hf
  | g :: r, off, size, h, f, hf => by
    simp only [tiles, Bool.and_eq_true, beq_iff_eq] at h
    rcases List.mem_cons.mp hf with rfl | hf
    · omega
    · have := tiles_off r _ _ h.2 f hf
      omega
/-- All rows are read-only. -/
def RO (H : DH) : Prop := ∀ l o, H.obj l = some o → o.ro = true
structure Grows (W : World) (ρ : Rho) (H : DH) (ρ' : Rho) (H' : DH) : Prop where
  le : ρ.le ρ'
  obj : ∀ l o, H.obj l = some o → H'.obj l = some o
  agree : Agree ρ' H' W
  ro : RO H'
theorem Grows.refl {ρ : Rho} {H : DH} (h : Agree ρ H W) (hr : RO H) : Grows W ρ H ρ H := ⟨Rho.le_refl _, fun _ _ h => h, h, hr⟩
theorem Grows.trans {ρ ρ1 ρ2 : Rho} {H H1 H2 : DH} (h : Grows W ρ H ρ1 H1) (k : Grows W ρ1 H1 ρ2 H2) : Grows W ρ H ρ2 H2 :=
  ⟨Rho.le_trans h.le k.le, fun l o e => k.obj l o (h.obj l o e), k.agree, k.ro⟩
/-- Where there is a slice there is a block. -/
def Room (W : World) (cs : List Value) : Prop := ∀ a n c, Value.slice (some a) n c ∈ cs → 0 < W.heap.size
theorem Room.of {cs cs' : List Value} (h : Room W cs) (hs : ∀ v ∈ cs', v ∈ cs) : Room W cs' := fun a n c hm => h a n c (hs _ hm)
/-- What one reading gives. -/
def InOk (enc : TypeId × Value → A) (P : Program) (W : World) (fuel : Nat) (n : Nat) : Prop :=
  ∀ t cs x, DataW.trod enc P W 0 (fun _ => true) true fuel t cs = some x → okTy P n t = true → Room W cs → ∀ ρ H, Agree ρ H W → RO H →
    ∃ ρ' H' ds, Grows W ρ H ρ' H' ∧ VRs ρ' ds cs ∧ ds.all DV.one = true ∧ Typed P H' t ds
theorem fields_in {fuel n : Nat} (ih : InOk enc P W fuel n) {cs : List Value} {size : Nat} (hl : cs.length = size) (hroom : Room W cs) : ∀ (l : List Field) (off : Nat), tiles P l off size = true → (∀ f ∈ l, ∃ x, DataW.trod enc P W 0 (fun _ => true) true fuel f.type ((cs.drop f.offset).take (P.cellsOf f.type)) = some x) →
    (l.all fun f => okTy P n f.type) = true → ∀ ρ H, Agree ρ H W → RO H →
    ∃ ρ' H' ds, Grows W ρ H ρ' H' ∧ VRs ρ' ds (cs.drop off) ∧ ds.all DV.one = true ∧ ∀ f ∈ l, Typed P H' f.type ((ds.drop (f.offset - off)).take (P.cellsOf f.type))
  | [], off, ht, _, _, ρ, H, ha, hr => by
    simp only [tiles, beq_iff_eq] at ht
    refine ⟨ρ, H, [], .refl ha hr, ?_, rfl, by simp⟩
    rw [List.drop_eq_nil_of_le (by omega)]
    exact .nil
  | f :: l, off, ht, hm, hok, ρ, H, ha, hr => by
    simp only [tiles, Bool.and_eq_true, beq_iff_eq] at ht
    simp only [List.all_cons, Bool.and_eq_true] at hok
    obtain ⟨rfl, ht2⟩ := ht
    obtain ⟨x, hx⟩ := hm f (by simp)
    obtain ⟨ρ1, H1, d1, g1, v1, o1, t1⟩ := ih _ _ _ hx hok.1 (hroom.of fun v hv => List.mem_of_mem_drop (List.mem_of_mem_take hv)) ρ H ha hr
    obtain ⟨ρ2, H2, d2, g2, v2, o2, t2⟩ := fields_in ih hl hroom l (f.offset + P.cellsOf f.type) ht2 (fun g hg => hm g (by simp [hg])) hok.2 ρ1 H1 g1.agree g1.ro
    have hle := tiles_le _ _ _ ht2
    have hlen : d1.length = P.cellsOf f.type := by
      have := VRs.length v1
      rw [List.length_take, List.length_drop] at this
      omega
    refine ⟨ρ2, H2, d1 ++ d2, g1.trans g2, ?_, by simp [o1, o2], fun g hg => ?_⟩
    · have : cs.drop f.offset = (cs.drop f.offset).take (P.cellsOf f.type) ++ cs.drop (f.offset + P.cellsOf f.type) := by
        rw [← List.drop_drop, List.take_append_drop]
      rw [this]
      exact (VRs.mono g2.le _ _ v1).append v2
    · rcases List.mem_cons.mp hg with rfl | hg
      · rw [Nat.sub_self, List.drop_zero, List.take_left' hlen]
        exact t1.mono g2.obj
      · have ho := tiles_off _ _ _ ht2 g hg
        have e : g.offset - f.offset = d1.length + (g.offset - (f.offset + P.cellsOf f.type)) := by omega
        rw [e, List.drop_append, List.drop_eq_nil_of_le (by omega), List.nil_append, Nat.add_sub_cancel_left]
        exact t2 g hg
/-- Parts of one size, one behind the other: an array's. -/
theorem parts_in {fuel n : Nat} (ih : InOk enc P W fuel n) {e : TypeId} (hok : okTy P n e = true) {cs : List Value} (hroom : Room W cs) {m : Nat} (hl : cs.length = m * P.cellsOf e) (hall : ∀ i, i < m → ∃ x, DataW.trod enc P W 0 (fun _ => true) true fuel e ((cs.drop (i * P.cellsOf e)).take (P.cellsOf e)) = some x)
    {ρ : Rho} {H : DH} (ha : Agree ρ H W) (hr : RO H) : ∀ k, k ≤ m → ∃ ρ' H' ds, Grows W ρ H ρ' H' ∧ VRs ρ' ds (cs.take (k * P.cellsOf e)) ∧ ds.all DV.one = true ∧ ∀ i, i < k → Typed P H' e ((ds.drop (i * P.cellsOf e)).take (P.cellsOf e)) := by
  intro k
  induction k with
  | zero => intro _; exact ⟨ρ, H, [], .refl ha hr, by simpa using VRs.nil, rfl, fun i hi => by omega⟩
  | succ k ihk =>
    intro hk
    obtain ⟨ρ1, H1, d1, g1, v1, o1, t1⟩ := ihk (by omega)
    obtain ⟨x, hx⟩ := hall k (by omega)
    obtain ⟨ρ2, H2, d2, g2, v2, o2, t2⟩ := ih _ _ _ hx hok (hroom.of fun v hv => List.mem_of_mem_drop (List.mem_of_mem_take hv)) ρ1 H1 g1.agree g1.ro
    have hmul : k * P.cellsOf e + P.cellsOf e ≤ m * P.cellsOf e := by
      have : (k + 1) * P.cellsOf e ≤ m * P.cellsOf e := Nat.mul_le_mul_right _ hk
      rwa [Nat.succ_mul] at this
    have hd1 : d1.length = k * P.cellsOf e := by
      have := VRs.length v1
      rw [List.length_take] at this
      omega
    have hd2 : d2.length = P.cellsOf e := by
      have := VRs.length v2
      rw [List.length_take, List.length_drop] at this
      omega
    refine ⟨ρ2, H2, d1 ++ d2, g1.trans g2, ?_, by simp [o1, o2], fun i hi => ?_⟩
    · rw [Nat.succ_mul, List.take_add]
      exact (VRs.mono g2.le _ _ v1).append v2
    · by_cases e1 : i = k
      · subst e1
        rw [List.drop_left' hd1, List.take_of_length_le (by omega)]
        exact t2
      · have hik : i * P.cellsOf e + P.cellsOf e ≤ k * P.cellsOf e := by
          have : (i + 1) * P.cellsOf e ≤ k * P.cellsOf e := Nat.mul_le_mul_right _ (by omega)
          rwa [Nat.succ_mul] at this
        rw [List.drop_append_of_le_length (by omega), List.take_append_of_le_length (by rw [List.length_drop]; omega)]
        exact (t1 i (by omega)).mono g2.obj
theorem cell_spot {a : Addr} {v : Value} (h : W.cell? a = some v) : a.spot = none ∧ cellAt W.heap[a.block]? a.off = some v := by
  unfold World.cell? at h
  split at h
  · rename_i c t f hb
    split at h
    · cases h
    · rename_i hs
      refine ⟨by simpa using hs, ?_⟩
      rw [hb]
      exact h
  · cases h
theorem add_none (b o n : Nat) : (Addr.mk b o none).add n = ⟨b, o + n, none⟩ := by
  unfold Addr.add
  split
  · rename_i h; subst h; rfl
  · rfl
theorem rows_in {fuel n : Nat} (ih : InOk enc P W fuel n) {e : TypeId} (hok : okTy P n e = true) (hpos : 0 < W.heap.size) {a : Addr} {m : Nat}
    (hall : ∀ i, i < m → ∃ x, ((W.cells? 0 (a.add (i * P.cellsOf e)) (P.cellsOf e)).bind (DataW.trod enc P W 0 (fun _ => true) true fuel e)) = some x)
    {ρ : Rho} {H : DH} (ha : Agree ρ H W) (hr : RO H) : ∀ k, k ≤ m → ∃ (ρ' : Rho) (H' : DH) (rs : List (List DV)), Grows W ρ H ρ' H' ∧ rs.length = k ∧ ∀ (i : Nat) (r : List DV), rs[i]? = some r → r.all DV.one = true ∧ Typed P H' e r ∧ ∃ cs, W.cells? 0 (a.add (i * P.cellsOf e)) (P.cellsOf e) = some cs ∧ VRs ρ' r cs := by
  intro k
  induction k with
  | zero => intro _; exact ⟨ρ, H, [], .refl ha hr, rfl, fun i r h => by simp at h⟩
  | succ k ihk =>
    intro hk
    obtain ⟨ρ1, H1, rs, g1, l1, h1⟩ := ihk (by omega)
    obtain ⟨x, hx⟩ := hall k (by omega)
    cases hc : W.cells? 0 (a.add (k * P.cellsOf e)) (P.cellsOf e) with
    | none => rw [hc] at hx; simp at hx
    | some cs =>
      rw [hc] at hx
      simp only [Option.bind_some] at hx
      obtain ⟨ρ2, H2, d2, g2, v2, o2, t2⟩ := ih _ _ _ hx hok (fun _ _ _ _ => hpos) ρ1 H1 g1.agree g1.ro
      refine ⟨ρ2, H2, rs ++ [d2], g1.trans g2, by simp [l1], fun i r hi => ?_⟩
      rcases Nat.lt_or_ge i rs.length with hlt | hge
      · rw [List.getElem?_append_left hlt] at hi
        obtain ⟨a1, a2, cs', a3, a4⟩ := h1 i r hi
        exact ⟨a1, a2.mono g2.obj, cs', a3, VRs.mono g2.le _ _ a4⟩
      · rw [List.getElem?_append_right hge] at hi
        have hi0 : i - rs.length = 0 := by
          rcases Nat.eq_zero_or_pos (i - rs.length) with h | h
          · exact h
          · rw [List.getElem?_eq_none (by simp; omega)] at hi; cases hi
        rw [hi0] at hi
        simp at hi
        subst hi
        have : i = k := by omega
        subst this
        exact ⟨o2, t2, cs, hc, v2⟩
theorem Grows.row {ρ : Rho} {H : DH} (ha : Agree ρ H W) (hr : RO H) {pl : Pl} {rs : List (List DV)} (hlies : pl.block < W.heap.size) (hrs : rs.length ≤ pl.tot)
    (hrow : ∀ (i : Nat) (r : List DV), rs[i]? = some r → r.length = pl.sz ∧ ∀ (j : Nat) (d : DV), r[j]? = some d → CR ρ W.heap[pl.block]? (pl.off + i * pl.sz + j) d) :
    Grows W ρ H (fun m => if m = H.next then some pl else ρ m) (H.new (.rows true pl.sz rs)) := by
  have hle : ρ.le (fun m => if m = H.next then some pl else ρ m) := by
    intro l p h
    have := ha.low l p h
    show (if l = H.next then some pl else ρ l) = some p
    rw [if_neg (by omega)]
    exact h
  have hro : RO (H.new (.rows true pl.sz rs)) := by
    intro l o h
    simp only [DH.new] at h
    split at h
    · cases h; rfl
    · exact hr l o h
  have hobj : ∀ l o, H.obj l = some o → (H.new (.rows true pl.sz rs)).obj l = some o := by
    intro l o h
    obtain ⟨p, hp, _⟩ := ha.obj l o h
    have := ha.low l p hp
    simp only [DH.new]
    rw [if_neg (by omega)]
    exact h
  refine ⟨hle, hobj, ⟨?_, ?_, ?_, ?_⟩, hro⟩
  · intro l p h
    have h : (if l = H.next then some pl else ρ l) = some p := h
    simp only [DH.new]
    split at h
    · omega
    · have := ha.low l p h; omega
  · intro l p h
    have h : (if l = H.next then some pl else ρ l) = some p := h
    split at h
    · cases h; exact hlies
    · exact ha.lies l p h
  · intro l o h
    simp only [DH.new] at h
    split at h
    · rename_i hl
      cases h
      refine ⟨pl, by simp [hl], ?_⟩
      refine ⟨rfl, hrs, fun i r hi => ⟨(hrow i r hi).1, fun j d hd => ((hrow i r hi).2 j d hd).mono hle⟩, fun h => by cases h⟩
    · rename_i hl
      obtain ⟨p, hp, ho⟩ := ha.obj l o h
      exact ⟨p, hle l p hp, ho.mono hle⟩
  · intro l l' o o' p p' _ h _ hf
    rw [hro l o h] at hf
    cases hf
theorem trod_in : ∀ fuel n, InOk enc P W fuel n := by
  intro fuel
  induction fuel with
  | zero => intro n t cs x h; simp [DataW.trod] at h
  | succ fuel ih =>
    intro n t cs x h hok hroom ρ H ha hr
    cases n with
    | zero => simp [okTy] at hok
    | succ n =>
      cases hu : P.underlying t with
      | none => simp [okTy, hu] at hok
      | some d =>
        cases d with
        | bool =>
          obtain ⟨b, rfl, rfl⟩ := DataW.trod_bool hu h
          exact ⟨ρ, H, [.bool b], .refl ha hr, VRs.one (by simp [VR]), rfl, .bool hu⟩
        | int k =>
          obtain ⟨m, rfl, rfl, hw⟩ := DataW.trod_int hu h
          exact ⟨ρ, H, [.int k m], .refl ha hr, VRs.one (by simp [VR]), rfl, .int hu hw⟩
        | string =>
          obtain ⟨m, rfl, rfl, hw⟩ := DataW.trod_string hu h
          exact ⟨ρ, H, [.str m.data.toList], .refl ha hr, VRs.one (by simp [VR]), rfl, .str hu (by simpa using hw)⟩
        | slice e =>
          simp only [okTy, hu, Bool.and_eq_true, bne_iff_ne, ne_eq] at hok
          rcases DataW.trod_slice hu h with ⟨rfl, rfl⟩ | ⟨a, len, cap, elems, rest, m, hm, rfl, rfl, _, hl, hc, he, hel, hre, _⟩
          · exact ⟨ρ, H, [.sl none 0 0 true], .refl ha hr, VRs.one (by simp [VR]), rfl, .nil hu⟩
          · cases hm
            obtain ⟨hr1, hre⟩ := hre rfl
            have hpos := hroom a len cap (by simp)
            have hall : ∀ i, i < cap → ∃ x, ((W.cells? 0 (a.add (i * P.cellsOf e)) (P.cellsOf e)).bind (DataW.trod enc P W 0 (fun _ => true) true fuel e)) = some x := by
              intro i hi
              rcases Nat.lt_or_ge i len with h | h
              · exact ⟨elems[i], by rw [hel i h, List.getElem?_eq_getElem (by omega)]⟩
              · have := hre (i - len) (by omega)
                rw [show len + (i - len) = i by omega] at this
                exact ⟨rest[i - len]'(by omega), by rw [this, List.getElem?_eq_getElem (by omega)]⟩
            obtain ⟨ρ1, H1, rs, g1, l1, h1⟩ := rows_in (ih n) hok.2 hpos hall ha hr cap (Nat.le_refl _)
            have hspot : 0 < cap → a.spot = none := by
              intro hcap
              obtain ⟨r, hr0⟩ : ∃ r, rs[0]? = some r := ⟨rs[0]'(by omega), List.getElem?_eq_getElem (by omega)⟩
              obtain ⟨_, _, cs, hcs, _⟩ := h1 0 r hr0
              obtain ⟨_, h3, h4⟩ := World.cells?_some hcs
              have h5 := h4 0 (by omega)
              rw [List.getElem?_eq_getElem (by omega)] at h5
              simp only [Nat.zero_mul, Addr.add, if_true] at h5
              exact (cell_spot h5).1
            let pl : Pl := ⟨if cap = 0 then 0 else a.block, a.off, P.cellsOf e, cap⟩
            have hlies : pl.block < W.heap.size := by
              show (if cap = 0 then 0 else a.block) < _
              split
              · exact hpos
              · obtain ⟨r, hr0⟩ : ∃ r, rs[0]? = some r := ⟨rs[0]'(by omega), List.getElem?_eq_getElem (by omega)⟩
                obtain ⟨_, _, cs, hcs, _⟩ := h1 0 r hr0
                have := World.cells?_block hcs (by omega)
                simpa [Addr.add] using this
            have g2 := Grows.row (W := W) g1.agree g1.ro (pl := pl) (rs := rs) hlies (by show rs.length ≤ cap; omega) (by
              intro i r hi
              have hi' : i < cap := by
                have := (List.getElem?_eq_some_iff.mp hi).1
                omega
              obtain ⟨o1, t1, cs, hcs, v1⟩ := h1 i r hi
              obtain ⟨_, h3, h4⟩ := World.cells?_some hcs
              have hlen := VRs.length v1
              refine ⟨by show r.length = P.cellsOf e; omega, fun j d hd => ?_⟩
              have hj : j < r.length := (List.getElem?_eq_some_iff.mp hd).1
              obtain ⟨c, hc', hv⟩ := VRs.get j v1 hd
              have h5 := h4 j (by omega)
              rw [hc'] at h5
              have hs := hspot (by omega)
              obtain ⟨b, o, sp⟩ := a
              simp only at hs
              subst hs
              rw [add_none, add_none] at h5
              have h6 := (cell_spot h5).2
              refine ⟨List.all_eq_true.mp o1 d (List.mem_of_getElem? hd), c, ?_, hv⟩
              show cellAt W.heap[(if cap = 0 then 0 else b)]? (o + i * P.cellsOf e + j) = some c
              rw [if_neg (by omega)]
              exact h6)
            refine ⟨_, _, [.sl (some (H1.next, 0, P.cellsOf e)) len rs.length true], g1.trans g2, VRs.one ?_, rfl, ?_⟩
            · simp only [VR]
              refine ⟨pl, a, cap, by simp, rfl, rfl, by omega, by omega, fun _ => by omega, by show 0 + cap ≤ cap; omega, ?_⟩
              rcases Nat.eq_zero_or_pos cap with h | h
              · exact .inl h
              · right
                have hs := hspot h
                obtain ⟨b, o, sp⟩ := a
                simp only at hs
                subst hs
                show Addr.mk b o none = ⟨(if cap = 0 then 0 else b), o + 0 * P.cellsOf e + 0, none⟩
                rw [if_neg (by omega)]
                simp
            · exact .slice hu (by simp [DH.new]; rfl) (by omega) (by omega) fun i r hi => ((h1 i r hi).2.1).mono g2.obj
        | struct fs =>
          simp only [okTy, hu, Bool.and_eq_true] at hok
          obtain ⟨xs, m, hm, _, hlen, hxl, hxs⟩ := DataW.trod_struct hu h
          cases hm
          obtain ⟨ρ1, H1, ds, g1, v1, o1, t1⟩ := fields_in (ih n) hlen hroom fs.toList 0 hok.1 (by
            intro f hf
            obtain ⟨i, hi, he⟩ := List.getElem_of_mem hf
            have := hxs i f (by rw [← Array.getElem?_toList, List.getElem?_eq_getElem hi, he])
            have hi2 : i < xs.length := by simp at hi; omega
            exact ⟨xs[i], by rw [this, List.getElem?_eq_getElem hi2]⟩) hok.2 ρ H ha hr
          rw [List.drop_zero] at v1
          refine ⟨ρ1, H1, ds, g1, v1, o1, .struct hu (by have := VRs.length v1; omega) fun f hf => ?_⟩
          have := t1 f hf
          rwa [Nat.sub_zero] at this
        | array m e =>
          simp only [okTy, hu, Bool.and_eq_true, beq_iff_eq] at hok
          obtain ⟨xs, m', hm, _, hlen, hxl, hxs⟩ := DataW.trod_array hu h
          cases hm
          obtain ⟨ρ1, H1, ds, g1, v1, o1, t1⟩ := parts_in (ih n) hok.2 hroom (by rw [hlen, hok.1]) (by
            intro i hi
            exact ⟨xs[i]'(by omega), by rw [hxs i hi, List.getElem?_eq_getElem (by omega)]⟩) ha hr m (Nat.le_refl _)
          rw [← hok.1, ← hlen, List.take_length] at v1
          exact ⟨ρ1, H1, ds, g1, v1, o1, .array hu (by have := VRs.length v1; omega) t1⟩
        | _ => simp [okTy, hu] at hok
end
end Go.Det

/- A row out of what the deterministic reading comes to. -/
namespace Go.Det
set_option linter.unusedVariables false
set_option linter.unusedSimpArgs false
open Go.ChangeShapes Go.WideShapes Go.RowKit
section
variable {P : Program} {A : Type} {enc : TypeId × Value → A} {W : World}
/-- An argument. -/
def TArg (P : Program) (H : DH) (t : TypeId) (d : DV) : Prop :=
  match P.underlying t with
  | some (.struct _) | some (.array _ _) => ∃ ds, d = .agg ds ∧ Typed P H t ds
  | _ => Typed P H t [d]
def TArgs (P : Program) (H : DH) : List TypeId → List DV → Prop
  | [], [] => True
  | t :: ts, d :: ds => TArg P H t d ∧ TArgs P H ts ds
  | _, _ => False
theorem TArg.mono {H H' : DH} (h : ∀ l o, H.obj l = some o → H'.obj l = some o) {t : TypeId} {d : DV} (k : TArg P H t d) : TArg P H' t d := by
  unfold TArg at *
  cases hu : P.underlying t with
  | none => rw [hu] at k; exact Typed.mono h k
  | some d =>
    rw [hu] at k
    cases d <;> first
      | exact Typed.mono h k
      | (obtain ⟨ds, h1, h2⟩ := k; exact ⟨ds, h1, h2.mono h⟩)
theorem TArgs.mono {H H' : DH} (h : ∀ l o, H.obj l = some o → H'.obj l = some o) : ∀ {ts : List TypeId} {ds : List DV}, TArgs P H ts ds → TArgs P H' ts ds
  | [], [], _ => trivial
  | _ :: _, _ :: _, k => ⟨k.1.mono h, k.2.mono h⟩
  | [], _ :: _, k => k.elim
  | _ :: _, [], k => k.elim
theorem has_room {r : Reach} {b : Nat} {t : TypeId} {a : Addr} {n c : Nat} (h : Cell.okWide P W r b t (.slice (some a) n c)) : 0 < W.heap.size := by
  have h' : Cell.ok P W r b t (.slice (some a) n c) := by
    unfold Cell.okWide at h
    cases hu : P.underlying t with
    | none => rw [hu] at h; exact h
    | some d => rw [hu] at h; cases d <;> exact h
  unfold Cell.ok at h'
  cases hu : P.underlying t with
  | none => rw [hu] at h'; exact h'.elim
  | some d =>
    rw [hu] at h'
    cases d <;> try exact h'.elim
    obtain ⟨_, _, _, _, row, cells, hs, _⟩ := h'
    unfold World.shape? at hs
    split at hs
    · rename_i hb
      have := (Array.getElem?_eq_some_iff.mp hb).1
      omega
    · cases hs
theorem arg_in {b : Nat} {t : TypeId} {v : Value} {d : DataW A} {ps : List MemPlace} (hv : Value.okWide P W .any b t v) (h : DataW.Trod enc P W 0 (fun _ => true) true t v d ps) {n : Nat} (hok : okTy P n t = true) {ρ : Rho} {H : DH} (ha : Agree ρ H W) (hr : RO H) :
    ∃ ρ' H' x, Grows W ρ H ρ' H' ∧ VR ρ' x v ∧ TArg P H' t x := by
  obtain ⟨fuel, hf⟩ := h
  unfold Value.okWide at hv
  split at hv
  · rename_i fs hu
    obtain ⟨cs, rfl, hsz, ts, hts, _, hc⟩ := hv
    obtain ⟨ρ', H', ds, g, v1, o1, t1⟩ := trod_in fuel n t _ _ hf hok (by
      intro a m c hm
      obtain ⟨i, hi, he⟩ := List.getElem_of_mem hm
      have hi' : i < cs.size := by simpa [Value.cells] using hi
      obtain ⟨u, _, hu'⟩ := hc i (.slice (some a) m c) (by rw [Array.getElem?_eq_getElem hi']; congr 1)
      exact has_room hu') ρ H ha hr
    refine ⟨ρ', H', .agg ds, g, ?_, ?_⟩
    · simp only [VR]; exact ⟨o1, cs, rfl, v1⟩
    · unfold TArg; rw [hu]; exact ⟨ds, rfl, t1⟩
  · rename_i fs m hu
    obtain ⟨cs, rfl, hsz, ts, hts, _, hc⟩ := hv
    obtain ⟨ρ', H', ds, g, v1, o1, t1⟩ := trod_in fuel n t _ _ hf hok (by
      intro a m c hm
      obtain ⟨i, hi, he⟩ := List.getElem_of_mem hm
      have hi' : i < cs.size := by simpa [Value.cells] using hi
      obtain ⟨u, _, hu'⟩ := hc i (.slice (some a) m c) (by rw [Array.getElem?_eq_getElem hi']; congr 1)
      exact has_room hu') ρ H ha hr
    refine ⟨ρ', H', .agg ds, g, ?_, ?_⟩
    · simp only [VR]; exact ⟨o1, cs, rfl, v1⟩
    · unfold TArg; rw [hu]; exact ⟨ds, rfl, t1⟩
  · rename_i h1 h2
    have hcell : v.cells.toList = [v] := by
      cases v <;> try rfl
      exfalso
      unfold Cell.okWide Cell.ok at hv
      cases hu : P.underlying t with
      | none => rw [hu] at hv; exact hv
      | some d => rw [hu] at hv; cases d <;> exact hv
    rw [hcell] at hf
    obtain ⟨ρ', H', ds, g, v1, o1, t1⟩ := trod_in fuel n t _ _ hf hok (by
      intro a m c hm
      simp at hm
      rw [← hm] at hv
      exact has_room hv) ρ H ha hr
    have hl := VRs.length v1
    simp at hl
    obtain ⟨x, rfl⟩ := List.length_eq_one_iff.mp hl.symm
    refine ⟨ρ', H', x, g, by simpa [VRs] using v1, ?_⟩
    unfold TArg
    split
    · rename_i fs hu; exact absurd hu (h1 fs)
    · rename_i n m hu; exact absurd hu (h2 n m)
    · exact t1
theorem args_in {b n : Nat} : ∀ (ts : List TypeId) (vs : List Value) (ds : List (DataW A)) (ps : List MemPlace), (∀ (j : Nat) t v, ts[j]? = some t → vs[j]? = some v → Value.okWide P W .any b t v) → DataW.TrodAll enc P W 0 (fun _ => true) true ts vs ds ps → (ts.all fun t => okTy P n t) = true →
    ∀ {ρ : Rho} {H : DH}, Agree ρ H W → RO H → ∃ ρ' H' xs, Grows W ρ H ρ' H' ∧ VRs ρ' xs vs ∧ TArgs P H' ts xs
  | [], vs, ds, ps, hv, h, hok, ρ, H, ha, hr => by
    obtain ⟨rfl, rfl, rfl⟩ := trodAll_nil h
    exact ⟨ρ, H, [], .refl ha hr, .nil, trivial⟩
  | t :: ts, vs, ds, ps, hv, h, hok, ρ, H, ha, hr => by
    obtain ⟨v, vs', d, ds', p, q, rfl, rfl, rfl, h1, h2⟩ := trodAll_cons h
    simp only [List.all_cons, Bool.and_eq_true] at hok
    obtain ⟨ρ1, H1, x, g1, v1, t1⟩ := arg_in (hv 0 t v rfl rfl) h1 hok.1 ha hr
    obtain ⟨ρ2, H2, xs, g2, v2, t2⟩ := args_in ts vs' ds' q (fun j t' v' h3 h4 => hv (j + 1) t' v' (by simpa using h3) (by simpa using h4)) h2 hok.2 g1.agree g1.ro
    exact ⟨ρ2, H2, x :: xs, g1.trans g2, .cons (VR.mono g2.le _ _ v1) v2, t1.mono g2.obj, t2⟩
theorem empty_agree : Agree (fun _ => none) ⟨0, fun _ => none⟩ W where
  low := fun l p h => by cases h
  lies := fun l p h => by cases h
  obj := fun l o h => by cases h
  apart := fun l l' o o' p p' _ h => by cases h
/-- Nothing of what there was ahead of the call has changed. -/
theorem Moves.below {ρ ρ' : Rho} {H H' : DH} {w w' : World} (h : Moves ρ H w ρ' H' w') (hr : RO H) : Below w.heap.size w w' :=
  ⟨h.os, h.tape, h.output, h.size, fun k hk => h.same k hk fun ⟨l, o, _, ho, hf, _⟩ => by rw [hr l o ho] at hf; cases hf⟩
theorem trodAll_below (hl : laidOutB P = true) {W' : World} (hb : Below W.heap.size W W') : ∀ (ts : List TypeId) (vs : List Value) (ds : List (DataW A)) (ps : List MemPlace), (ts.all fun t => P.readableRec t && decide (t < P.types.size)) = true →
    DataW.TrodAll enc P W 0 (fun _ => true) true ts vs ds ps → ∃ ps', DataW.TrodAll enc P W' 0 (fun b => decide (b < W.heap.size)) true ts vs ds ps'
  | [], vs, ds, ps, _, h => by
    obtain ⟨rfl, rfl, rfl⟩ := trodAll_nil h
    exact ⟨[], trodAll_mk0⟩
  | t :: ts, vs, ds, ps, hr, h => by
    obtain ⟨v, vs', d, ds', p, q, rfl, rfl, rfl, h1, h2⟩ := trodAll_cons h
    simp only [List.all_cons, Bool.and_eq_true, decide_eq_true_eq] at hr
    obtain ⟨q', hq'⟩ := trodAll_below hl hb ts vs' ds' q (by simpa using hr.2) h2
    have hlt : ∀ x ∈ p, x.block < W.heap.size := by obtain ⟨m, hm⟩ := h1; exact DataW.trod_lt m _ _ _ hm
    exact ⟨p ++ q', trodAll_cons_mk (Below.trod hl hr.1.1 hr.1.2 h1 hb hlt) hq'⟩
end
end Go.Det

/- Functions told by a table: those whose answer leads to no place; more rounds tell the same. -/
namespace Go.Det
set_option linter.unusedVariables false
set_option linter.unusedSimpArgs false
/-! ### values that lead to no place -/
mutual
def DV.closed : DV → Bool
  | .ptr (some _) | .sl (some _) _ _ _ | .map (some _) => false
  | .func _ a c => DV.closeds a && DV.closeds c
  | .iface _ v => v.closed
  | .agg cs => DV.closeds cs
  | .tuple cs => DV.closeds cs
  | _ => true
def DV.closeds : List DV → Bool
  | [] => true
  | d :: r => d.closed && DV.closeds r
end
mutual
theorem VR.closed {ρ ρ' : Rho} : ∀ (d : DV) (v : Value), d.closed = true → VR ρ d v → VR ρ' d v
  | .bool _, v, _, h => by simpa [VR] using h
  | .int _ _, v, _, h => by simpa [VR] using h
  | .str _, v, _, h => by simpa [VR] using h
  | .ptr none, v, _, h => by simpa [VR] using h
  | .ptr (some _), v, hc, h => by simp [DV.closed] at hc
  | .sl none _ _ _, v, _, h => by simpa [VR] using h
  | .sl (some _) _ _ _, v, hc, h => by simp [DV.closed] at hc
  | .map none, v, _, h => by simpa [VR] using h
  | .map (some _), v, hc, h => by simp [DV.closed] at hc
  | .nilFunc, v, _, h => by simpa [VR] using h
  | .nilIface, v, _, h => by simpa [VR] using h
  | .func fn a c, v, hc, h => by
    simp only [DV.closed, Bool.and_eq_true] at hc
    simp only [VR] at h ⊢
    obtain ⟨x, y, h1, h2, h3⟩ := h
    exact ⟨x, y, h1, VRs.closed a _ hc.1 h2, VRs.closed c _ hc.2 h3⟩
  | .iface t x, v, hc, h => by
    simp only [DV.closed] at hc
    simp only [VR] at h ⊢
    obtain ⟨y, h1, h2⟩ := h
    exact ⟨y, h1, VR.closed x y hc h2⟩
  | .agg cs, v, hc, h => by
    simp only [DV.closed] at hc
    simp only [VR] at h ⊢
    obtain ⟨h0, y, h1, h2⟩ := h
    exact ⟨h0, y, h1, VRs.closed cs _ hc h2⟩
  | .tuple cs, v, hc, h => by
    simp only [DV.closed] at hc
    simp only [VR] at h ⊢
    obtain ⟨y, h1, h2⟩ := h
    exact ⟨y, h1, VRs.closed cs _ hc h2⟩
theorem VRs.closed {ρ ρ' : Rho} : ∀ (ds : List DV) (vs : List Value), DV.closeds ds = true → VRs ρ ds vs → VRs ρ' ds vs
  | [], vs, _, h => by simpa [VRs] using h
  | d :: ds, [], _, h => by simp [VRs] at h
  | d :: ds, v :: vs, hc, h => by
    simp only [DV.closeds, Bool.and_eq_true] at hc
    simp only [VRs] at h ⊢
    obtain ⟨a, b, e, h1, h2⟩ := h
    cases e
    exact ⟨_, _, rfl, VR.closed d _ hc.1 h1, VRs.closed ds _ hc.2 h2⟩
end
/-! ### what was there is told by the places that were there -/
mutual
theorem VR.narrow {ρ ρ' : Rho} (hle : ρ.le ρ') : ∀ (d : DV) (v u : Value), VR ρ d v → VR ρ' d u → VR ρ d u
  | .bool _, v, u, _, h => by simpa [VR] using h
  | .int _ _, v, u, _, h => by simpa [VR] using h
  | .str _, v, u, _, h => by simpa [VR] using h
  | .ptr none, v, u, _, h => by simpa [VR] using h
  | .ptr (some (l, i, o)), v, u, h0, h => by
    simp only [VR] at h0 h ⊢
    obtain ⟨pl, h1, _⟩ := h0
    obtain ⟨pl', h3, h4⟩ := h
    rw [hle _ _ h1] at h3; cases h3
    exact ⟨pl, h1, h4⟩
  | .sl none _ _ _, v, u, _, h => by simpa [VR] using h
  | .sl (some (l, i, z)) _ _ _, v, u, h0, h => by
    simp only [VR] at h0 h ⊢
    obtain ⟨pl, _, _, h1, _⟩ := h0
    obtain ⟨pl', a, c, h3, h4⟩ := h
    rw [hle _ _ h1] at h3; cases h3
    exact ⟨pl, a, c, h1, h4⟩
  | .map none, v, u, _, h => by simpa [VR] using h
  | .map (some l), v, u, h0, h => by
    simp only [VR] at h0 h ⊢
    obtain ⟨pl, h1, _⟩ := h0
    obtain ⟨pl', h3, h4⟩ := h
    rw [hle _ _ h1] at h3; cases h3
    exact ⟨pl, h1, h4⟩
  | .nilFunc, v, u, _, h => by simpa [VR] using h
  | .nilIface, v, u, _, h => by simpa [VR] using h
  | .func fn a c, v, u, h0, h => by
    simp only [VR] at h0 h ⊢
    obtain ⟨x, y, _, h2, h3⟩ := h0
    obtain ⟨x', y', h4, h5, h6⟩ := h
    exact ⟨x', y', h4, VRs.narrow hle a _ _ h2 h5, VRs.narrow hle c _ _ h3 h6⟩
  | .iface t x, v, u, h0, h => by
    simp only [VR] at h0 h ⊢
    obtain ⟨y, _, h2⟩ := h0
    obtain ⟨y', h3, h4⟩ := h
    exact ⟨y', h3, VR.narrow hle x _ _ h2 h4⟩
  | .agg cs, v, u, h0, h => by
    simp only [VR] at h0 h ⊢
    obtain ⟨_, y, _, h2⟩ := h0
    obtain ⟨h9, y', h3, h4⟩ := h
    exact ⟨h9, y', h3, VRs.narrow hle cs _ _ h2 h4⟩
  | .tuple cs, v, u, h0, h => by
    simp only [VR] at h0 h ⊢
    obtain ⟨y, _, h2⟩ := h0
    obtain ⟨y', h3, h4⟩ := h
    exact ⟨y', h3, VRs.narrow hle cs _ _ h2 h4⟩
theorem VRs.narrow {ρ ρ' : Rho} (hle : ρ.le ρ') : ∀ (ds : List DV) (vs us : List Value), VRs ρ ds vs → VRs ρ' ds us → VRs ρ ds us
  | [], vs, us, _, h => by simpa [VRs] using h
  | d :: ds, [], us, h0, h => by simp [VRs] at h0
  | d :: ds, v :: vs, [], h0, h => by simp [VRs] at h
  | d :: ds, v :: vs, u :: us, h0, h => by
    simp only [VRs] at h0 h ⊢
    obtain ⟨a, b, e, h1, h2⟩ := h0
    obtain ⟨a', b', e', h3, h4⟩ := h
    cases e
    cases e'
    exact ⟨_, _, rfl, VR.narrow hle d _ _ h1 h3, VRs.narrow hle ds _ _ h2 h4⟩
end
theorem EntsR.narrow {ρ ρ' : Rho} (hle : ρ.le ρ') {xs : List (DV × DV)} {es : List MapEntry} (h0 : EntsR ρ xs es) : ∀ {es' : List MapEntry}, EntsR ρ' xs es' → EntsR ρ xs es' := by
  induction h0 with
  | nil => intro es' h; cases h; exact .nil
  | cons a _ ih =>
    intro es' h
    cases h with
    | cons b r => exact .cons ⟨VR.narrow hle _ _ _ a.key b.key, VR.narrow hle _ _ _ a.val b.val⟩ (ih r)
theorem LibR.narrow {ρ ρ' : Rho} (hle : ρ.le ρ') {pl : Pl} {b b' : Option Obj} : ∀ {o : LibObj}, LibR ρ pl b o → LibR ρ' pl b' o → LibR ρ pl b' o
  | .bld _ none _, _, h => h
  | .bld _ (some i) _, ⟨_, _, _, q, h0, _⟩, ⟨h1, v, h2, q', h3, h4⟩ => by
    have := hle _ _ h0
    rw [this] at h3
    cases h3
    exact ⟨h1, v, h2, q, h0, h4⟩
  | .hid _, _, h => h
theorem ObjR.narrow {ρ ρ' : Rho} (hle : ρ.le ρ') {pl : Pl} {b b' : Option Obj} : ∀ {o : DObj}, ObjR ρ pl b o → ObjR ρ' pl b' o → ObjR ρ pl b' o
  | .rows _ _ _, h0, h => ⟨h.1, h.2.1, fun i r hr => ⟨(h.2.2.1 i r hr).1, fun j d hd => by
      obtain ⟨_, c0, _, v0⟩ := (h0.2.2.1 i r hr).2 j d hd
      obtain ⟨h1, c, hc, hv⟩ := (h.2.2.1 i r hr).2 j d hd
      exact ⟨h1, c, hc, VR.narrow hle _ _ _ v0 hv⟩⟩, h.2.2.2⟩
  | .map _, h0, h => by
    obtain ⟨_, _, _, e0, _⟩ := h0
    obtain ⟨ents, clock, hb, he, hs⟩ := h
    exact ⟨ents, clock, hb, EntsR.narrow hle e0 he, hs⟩
  | .iter _ _, _, h => h
  | .pin _ _, _, h => h
  | .lib _, h0, h => LibR.narrow hle h0 h
/-- What was made behind is forgotten. -/
theorem Moves.drop {ρ ρ1 : Rho} {H H1 : DH} {w w' : World} (ha : Agree ρ H w) (h : Moves ρ H w ρ1 H1 w') (hk : ∀ l o, H.obj l = some o → H1.obj l = some o) : Moves ρ H w ρ H w' where
  le := Rho.le_refl _
  agree := {
    low := ha.low
    lies := fun l pl e => Nat.lt_of_lt_of_le (ha.lies l pl e) h.size
    obj := fun l o e => by
      obtain ⟨pl, hp, ho⟩ := ha.obj l o e
      obtain ⟨pl', hp', ho'⟩ := h.agree.obj l o (hk l o e)
      rw [h.le _ _ hp] at hp'; cases hp'
      exact ⟨pl, hp, ho.narrow h.le ho'⟩
    apart := ha.apart }
  os := h.os
  tape := h.tape
  output := h.output
  drawn := h.drawn
  size := h.size
  same := h.same
  own := fun b hb => .inl hb
  fresh := fun _ _ h => .inl h
section
variable {P : Program} {X : Ext}
theorem callOk_of_calls {f : FuncId} {fn : Func} {c : Code} (hf : P.funcs[f]? = some fn) (hn : (fn.name == "runtime.NumGoroutine") = false) (hb : fn.body = some c) {args : Array Value} {w : World} {K : Value → World → Prop}
    (h : Calls P f args w fun | .returned v, w' => K v w' | _, _ => False) : CallOk P f args w K := by
  intro o a next Q hq
  rw [Go.MuLone.run_callFunc_enter hf hn hb, Oper.upon_enter]
  refine h.mono fun e w' he => ?_
  cases e with
  | returned v => exact hq v w' he
  | panicked ch => exact he.elim
  | outgrown => exact he.elim
/-- A function whose arguments and whose answer lead to no place: its table may be told from an empty heap. -/
theorem ext_closed (hX : ProgOk P X) {f : FuncId} {fn : Func} {c : Code} (hf : P.funcs[f]? = some fn) (hb : fn.body = some c) (hx : X f = none) {g : List DV → DH → Option (DV × DH)}
    (hg : ∀ args H r H', g args H = some (r, H') → H' = H ∧ DV.closeds args = true ∧ r.closed = true ∧ ∃ k H1, callD P X k f args ⟨0, fun _ => none⟩ = some (r, H1)) : ExtSound P g f := by
  intro args H r H' h ρ w vs ha hv
  obtain ⟨rfl, hca, hcr, k, H1, hk⟩ := hg args H r H' h
  refine callOk_of_calls hf (hX.body f fn c hx hf hb).1 hb ((calls_sound hX hf hb hx hk (empty_agree (W := w)) (VRs.closed (ρ := ρ) _ _ hca hv)).mono fun e w' he => ?_)
  cases e with
  | returned v =>
    obtain ⟨ρ', h1, h2⟩ := he
    have hsame : ∀ b, b < w.heap.size → w'.heap[b]? = w.heap[b]? := fun b hb => h2.same b hb fun ⟨l, o, pl, ho, _⟩ => by cases ho
    refine ⟨ρ, VR.closed _ _ hcr h1, Rho.le_refl _, ⟨ha.low, fun l pl e => Nat.lt_of_lt_of_le (ha.lies l pl e) h2.size, fun l o e => ?_, ha.apart⟩, h2.os, h2.tape, h2.output, h2.drawn, h2.size, fun b hb _ => hsame b hb, fun b hb => .inl hb, fun _ _ h => .inl h⟩
    obtain ⟨pl, hp, ho⟩ := ha.obj l o e
    exact ⟨pl, hp, by rw [hsame _ (ha.lies l pl hp)]; exact ho⟩
  | panicked ch => exact he.elim
  | outgrown => exact he.elim
/-! ### the functions that a proof reads by their text, and those it has a table for -/
def Xof (L : List FuncId) (E : List (FuncId × (List DV → DH → Option (DV × DH)))) : Ext := fun f =>
  match E.lookup f with
  | some g => some g
  | none => if L.contains f then none else some fun _ _ => none
def okB (P : Program) (f : FuncId) : Bool :=
  match P.funcs[f]? with
  | some fn => match fn.body with
    | some c => !(fn.name == "runtime.NumGoroutine") && codeOk P c
    | none => true
  | none => true
theorem ext_nothing (f : FuncId) : ExtSound P (fun _ _ => none) f := fun args H r H' h => by cases h
theorem progOk_of {L : List FuncId} {E : List (FuncId × (List DV → DH → Option (DV × DH)))} (hmix : P.follows .mixedOrders = true) (hL : L.all (okB P) = true) (hE : ∀ f g, (f, g) ∈ E → ExtSound P g f) : ProgOk P (Xof L E) where
  mix := hmix
  body := fun f fn c hx hf hb => by
    unfold Xof at hx
    split at hx
    · cases hx
    · split at hx
      · rename_i hc
        have := List.all_eq_true.mp hL f (List.contains_iff_mem.mp hc)
        unfold okB at this
        rw [hf] at this
        simp only [hb, Bool.and_eq_true, Bool.not_eq_true'] at this
        exact ⟨this.1, codeOk_spec hmix this.2⟩
      · cases hx
  ext := fun f g hx => by
    unfold Xof at hx
    split at hx
    · rename_i g' hg
      cases hx
      exact hE f g (by
        clear hE
        induction E with
        | nil => cases hg
        | cons x E ih =>
          obtain ⟨a, b⟩ := x
          simp only [List.lookup] at hg
          split at hg
          · rename_i he
            cases hg
            have : f = a := by simpa using he
            subst this
            exact List.mem_cons_self
          · exact List.mem_cons_of_mem _ (ih hg))
    · split at hx
      · cases hx
      · cases hx; exact ext_nothing f
/-! ### more rounds -/
def CFle (cf cf' : CallF) : Prop := ∀ f a H r, cf f a H = some r → cf' f a H = some r
theorem CFle.refl (cf : CallF) : CFle cf cf := fun _ _ _ _ h => h
theorem opD_mono {cf cf' : CallF} (h : CFle cf cf') {o : Oper} {env : List DV} {H : DH} {r : DV × DH} (e : opD P cf o env H = some r) : opD P cf' o env H = some r := by
  unfold opD at *
  split
  · rename_i hop
    rw [hop] at e
    simp only at e ⊢
    split <;> rename_i hc <;> rw [hc] at e <;> simp only at e
    · exact h _ _ _ _ e
    · cases e
  · rename_i hop
    rw [hop] at e
    simp only at e ⊢
    split <;> rename_i hc <;> rw [hc] at e <;> simp only at e
    · exact h _ _ _ _ e
    · cases e
  · rename_i h1 h2
    split at e
    · rename_i hop; exact absurd hop (h1 _ _ _)
    · rename_i hop; exact absurd hop (h2 _ _ _ _)
    · exact e
theorem runOps_mono {cf cf' : CallF} (h : CFle cf cf') {ops : Array Oper} : ∀ (l : List Oper) (st st' : DSt), runOps P cf ops l st = some st' → runOps P cf' ops l st = some st'
  | [], st, st', e => e
  | o :: r, st, st', e => by
    simp only [runOps] at *
    split
    · rename_i hw
      rw [if_pos hw] at e
      split at e
      · rename_i v H1 ho
        rw [opD_mono h ho]
        exact runOps_mono h r _ _ e
      · cases e
    · rename_i hw
      rw [if_neg hw] at e
      exact runOps_mono h r _ _ e
theorem runDraw_mono {cf cf' : CallF} (h : CFle cf cf') {ops : Array Oper} {bef : Array Nat} : ∀ (l : List Oper) (i : Nat) (seen : List Seen) (was : List Was) (st st' : DSt), runDraw P cf ops bef l i seen was st = some st' → runDraw P cf' ops bef l i seen was st = some st'
  | [], i, seen, was, st, st', e => e
  | o :: r, i, seen, was, st, st', e => by
    simp only [runDraw] at *
    split
    · rename_i hw
      rw [if_pos hw] at e
      split at e
      · rename_i v H1 ho
        rw [opD_mono h ho]
        simp only
        split at e
        · rename_i hm
          rw [if_pos hm]
          split at e
          · rename_i hs
            rw [if_pos hs]
            exact runDraw_mono h r _ _ _ _ _ e
          · cases e
        · rename_i hm
          rw [if_neg hm]
          split at e
          · rename_i hr
            rw [if_pos hr]
            split at e
            · rename_i hs
              rw [if_pos hs]
              exact runDraw_mono h r _ _ _ _ _ e
            · cases e
          · rename_i hr
            rw [if_neg hr]
            exact runDraw_mono h r _ _ _ _ _ e
      · cases e
    · rename_i hw
      rw [if_neg hw] at e
      exact runDraw_mono h r _ _ _ _ _ e
theorem execD_mono {cf cf' : CallF} (h : CFle cf cf') : ∀ (k k' : Nat), k ≤ k' → ∀ (c : Code) (st : DSt) (r : DExit × DSt), execD P cf k c st = some r → execD P cf' k' c st = some r := by
  intro k
  induction k with
  | zero => intro k' _ c st r e; simp [execD] at e
  | succ k ih =>
    intro k' hk c st r e
    obtain ⟨m, rfl⟩ : ∃ m, k' = m + 1 := ⟨k' - 1, by omega⟩
    have hm : k ≤ m := by omega
    cases c <;> simp only [execD] at e ⊢ <;> try exact e
    case seq a b =>
      split at e
      · rename_i st1 h1
        rw [ih m hm _ _ _ h1]
        exact ih m hm _ _ _ e
      · rename_i hne
        rw [ih m hm _ _ _ e]
        obtain ⟨x, st2⟩ := r
        cases x with
        | normal => exact absurd e (hne st2)
        | exit id => rfl
        | ret => rfl
    case cond c x y =>
      split at e
      · rename_i t ht
        exact ih m hm _ _ _ e
      · cases e
    case block id c =>
      split at e
      · rename_i id' st1 h1
        rw [ih m hm _ _ _ h1]
        exact e
      · rename_i hne
        rw [ih m hm _ _ _ e]
        obtain ⟨x, st2⟩ := r
        cases x with
        | normal => rfl
        | exit id' => exact absurd e (hne id' st2)
        | ret => rfl
    case loop c =>
      split at e
      · rename_i st1 h1
        rw [ih m hm _ _ _ h1]
        exact ih m hm _ _ _ e
      · rename_i hne
        rw [ih m hm _ _ _ e]
        obtain ⟨x, st2⟩ := r
        cases x with
        | normal => exact absurd e (hne st2)
        | exit id => rfl
        | ret => rfl
    case region id ops dr =>
      cases dr with
      | false =>
        simp only [execD] at e ⊢
        cases hr : runOps P cf ops ops.toList st with
        | none => rw [hr] at e; cases e
        | some st1 => rw [hr] at e; rw [runOps_mono h _ _ _ hr]; exact e
      | true =>
        simp only [execD] at e ⊢
        cases hr : runDraw P cf ops (Region.before ops) ops.toList 0 [] [] st with
        | none => rw [hr] at e; cases e
        | some st1 => rw [hr] at e; rw [runDraw_mono h _ _ _ _ _ _ hr]; exact e
theorem callD_mono : ∀ (k k' : Nat), k ≤ k' → CFle (callD P X k) (callD P X k') := by
  intro k
  induction k with
  | zero => intro k' _ f a H r e; simp [callD] at e
  | succ k ih =>
    intro k' hk f a H r e
    obtain ⟨m, rfl⟩ : ∃ m, k' = m + 1 := ⟨k' - 1, by omega⟩
    simp only [callD] at e ⊢
    split
    · rename_i g hg; rw [hg] at e; exact e
    · rename_i hg
      rw [hg] at e
      simp only at e
      split
      · rename_i fn hf
        rw [hf] at e
        simp only at e
        split
        · rename_i c hc
          rw [hc] at e
          simp only at e
          split at e
          · rename_i st he
            rw [execD_mono (ih m (by omega)) _ _ (by omega) _ _ _ he]
            exact e
          · rename_i st he
            rw [execD_mono (ih m (by omega)) _ _ (by omega) _ _ _ he]
            exact e
          · cases e
        · rename_i hc; rw [hc] at e; cases e
      · rename_i hf; rw [hf] at e; cases e
end
end Go.Det

/- Reasoning about code: what it comes to, with no numbers of rounds. -/
namespace Go.Det
set_option linter.unusedVariables false
set_option linter.unusedSimpArgs false
section
variable {P : Program} {X : Ext}
theorem getD_zero (x : DV) (xs : List DV) (d : DV) : (x :: xs).getD 0 d = x := rfl
theorem getD_succ (x : DV) (xs : List DV) (n : Nat) (d : DV) : (x :: xs).getD (n + 1) d = xs.getD n d := rfl
theorem fieldAt_zero (x : Field) (xs : List Field) (h : 0 < (x :: xs).toArray.size) : (x :: xs).toArray[0] = x := rfl
theorem fieldAt_succ (x : Field) (xs : List Field) (n : Nat) (h : n + 1 < (x :: xs).toArray.size) : (x :: xs).toArray[n + 1] = xs.toArray[n]'(by simpa using h) := rfl
theorem DH.new_next (H : DH) (o : DObj) : (H.new o).next = H.next + 1 := rfl
theorem DH.set_next (H : DH) (l : Nat) (o : Option DObj) : (H.set l o).next = H.next := rfl
/-- A call comes to an answer of which K holds. -/
structure CallWp (P : Program) (X : Ext) (f : FuncId) (args : List DV) (H : DH) (K : DV → DH → Prop) : Prop where
  ex : ∃ k r H', callD P X k f args H = some (r, H') ∧ K r H'
/-- A code comes to an exit of which Q holds. -/
structure Dwp (P : Program) (X : Ext) (c : Code) (st : DSt) (Q : DExit → DSt → Prop) : Prop where
  ex : ∃ k e st', execD P (callD P X k) k c st = some (e, st') ∧ Q e st'
structure OpsWp (P : Program) (X : Ext) (all : Array Oper) (l : List Oper) (st : DSt) (K : DSt → Prop) : Prop where
  ex : ∃ k st', runOps P (callD P X k) all l st = some st' ∧ K st'
structure OpWp (P : Program) (X : Ext) (o : Oper) (env : List DV) (H : DH) (K : DV → DH → Prop) : Prop where
  ex : ∃ k v H', opD P (callD P X k) o env H = some (v, H') ∧ K v H'
theorem CallWp.mono {f : FuncId} {args : List DV} {H : DH} {K K' : DV → DH → Prop} (h : CallWp P X f args H K) (hk : ∀ r H', K r H' → K' r H') : CallWp P X f args H K' := by
  obtain ⟨k, r, H', h1, h2⟩ := h.ex
  exact ⟨⟨k, r, H', h1, hk _ _ h2⟩⟩
theorem Dwp.mono {c : Code} {st : DSt} {Q Q' : DExit → DSt → Prop} (h : Dwp P X c st Q) (hk : ∀ e st', Q e st' → Q' e st') : Dwp P X c st Q' := by
  obtain ⟨k, e, st', h1, h2⟩ := h.ex
  exact ⟨⟨k, e, st', h1, hk _ _ h2⟩⟩
theorem dwp_skip {st : DSt} {Q : DExit → DSt → Prop} (h : Q .normal st) : Dwp P X .skip st Q := ⟨⟨1, _, _, rfl, h⟩⟩
theorem dwp_ret {st : DSt} {Q : DExit → DSt → Prop} (h : Q .ret st) : Dwp P X .ret st Q := ⟨⟨1, _, _, rfl, h⟩⟩
theorem dwp_exit {n : Nat} {st : DSt} {Q : DExit → DSt → Prop} (h : Q (.exit n) st) : Dwp P X (.exit n) st Q := ⟨⟨1, _, _, rfl, h⟩⟩
/-- What follows a first part. -/
def thenD (next : DSt → Prop) (Q : DExit → DSt → Prop) : DExit → DSt → Prop
  | .normal, st => next st
  | e, st => Q e st
theorem dwp_seq {a b : Code} {st : DSt} {Q : DExit → DSt → Prop} (h : Dwp P X a st (thenD (fun st => Dwp P X b st Q) Q)) : Dwp P X (.seq a b) st Q := by
  obtain ⟨k, e, st1, h1, h2⟩ := h.ex
  cases e with
  | normal =>
    obtain ⟨k2, e2, st2, h3, h4⟩ := h2.ex
    refine ⟨⟨k + k2 + 1, e2, st2, ?_, h4⟩⟩
    simp only [execD]
    rw [execD_mono (callD_mono k (k + k2 + 1) (by omega)) k (k + k2) (by omega) _ _ _ h1]
    exact execD_mono (callD_mono k2 (k + k2 + 1) (by omega)) k2 (k + k2) (by omega) _ _ _ h3
  | exit id =>
    refine ⟨⟨k + 1, .exit id, st1, ?_, h2⟩⟩
    simp only [execD]
    rw [execD_mono (callD_mono k (k + 1) (by omega)) k k (by omega) _ _ _ h1]
  | ret =>
    refine ⟨⟨k + 1, .ret, st1, ?_, h2⟩⟩
    simp only [execD]
    rw [execD_mono (callD_mono k (k + 1) (by omega)) k k (by omega) _ _ _ h1]
theorem dwp_cond {c : Operand} {x y : Code} {st : DSt} {Q : DExit → DSt → Prop} {t : Bool} (hc : evalO st.env c = some (.bool t)) (ht : t = true → Dwp P X x st Q) (hf : t = false → Dwp P X y st Q) : Dwp P X (.cond c x y) st Q := by
  have : Dwp P X (if t then x else y) st Q := by cases t with
    | true => exact ht rfl
    | false => exact hf rfl
  obtain ⟨k, e, st', h1, h2⟩ := this.ex
  refine ⟨⟨k + 1, e, st', ?_, h2⟩⟩
  simp only [execD, hc]
  exact execD_mono (callD_mono k (k + 1) (by omega)) k k (by omega) _ _ _ h1
/-- What leaves a block. -/
def blockD (id : Nat) (Q : DExit → DSt → Prop) : DExit → DSt → Prop
  | .exit id', st => if id' = id then Q .normal st else Q (.exit id') st
  | e, st => Q e st
theorem dwp_block {id : Nat} {c : Code} {st : DSt} {Q : DExit → DSt → Prop} (h : Dwp P X c st (blockD id Q)) : Dwp P X (.block id c) st Q := by
  obtain ⟨k, e, st1, h1, h2⟩ := h.ex
  have h1' := execD_mono (callD_mono k (k + 1) (by omega)) k k (by omega) _ _ _ h1
  cases e with
  | normal => exact ⟨⟨k + 1, .normal, st1, by simp only [execD]; rw [h1'], h2⟩⟩
  | ret => exact ⟨⟨k + 1, .ret, st1, by simp only [execD]; rw [h1'], h2⟩⟩
  | exit id' =>
    simp only [blockD] at h2
    split at h2
    · rename_i hid
      exact ⟨⟨k + 1, .normal, st1, by simp only [execD]; rw [h1']; simp only [hid, if_true], h2⟩⟩
    · rename_i hid
      exact ⟨⟨k + 1, .exit id', st1, by simp only [execD]; rw [h1']; simp only [hid, if_false], h2⟩⟩
/-- A loop, with what holds ahead of each round and what each round lessens. -/
theorem dwp_loop {c : Code} {st : DSt} {Q : DExit → DSt → Prop} (I : DSt → Prop) (μ : DSt → Nat) (h0 : I st) (hstep : ∀ st, I st → Dwp P X c st (thenD (fun st' => I st' ∧ μ st' < μ st) Q)) : Dwp P X (.loop c) st Q := by
  have key : ∀ n st, μ st < n → I st → Dwp P X (.loop c) st Q := by
    intro n
    induction n with
    | zero => intro st h; omega
    | succ n ih =>
      intro st hn hI
      obtain ⟨k, e, st1, h1, h2⟩ := (hstep st hI).ex
      cases e with
      | normal =>
        obtain ⟨k2, e2, st2, h3, h4⟩ := (ih st1 (by have := h2.2; omega) h2.1).ex
        refine ⟨⟨k + k2 + 1, e2, st2, ?_, h4⟩⟩
        simp only [execD]
        rw [execD_mono (callD_mono k (k + k2 + 1) (by omega)) k (k + k2) (by omega) _ _ _ h1]
        exact execD_mono (callD_mono k2 (k + k2 + 1) (by omega)) k2 (k + k2) (by omega) _ _ _ h3
      | exit id =>
        refine ⟨⟨k + 1, .exit id, st1, ?_, h2⟩⟩
        simp only [execD]
        rw [execD_mono (callD_mono k (k + 1) (by omega)) k k (by omega) _ _ _ h1]
      | ret =>
        refine ⟨⟨k + 1, .ret, st1, ?_, h2⟩⟩
        simp only [execD]
        rw [execD_mono (callD_mono k (k + 1) (by omega)) k k (by omega) _ _ _ h1]
  exact key _ st (Nat.lt_succ_self _) h0
/-- One round of a loop, then the loop again. -/
theorem dwp_round {c : Code} {st : DSt} {Q : DExit → DSt → Prop} (h : Dwp P X c st (thenD (fun st' => Dwp P X (.loop c) st' Q) Q)) : Dwp P X (.loop c) st Q := by
  obtain ⟨k, e, st1, h1, h2⟩ := h.ex
  cases e with
  | normal =>
    obtain ⟨k2, e2, st2, h3, h4⟩ := h2.ex
    refine ⟨⟨k + k2 + 1, e2, st2, ?_, h4⟩⟩
    simp only [execD]
    rw [execD_mono (callD_mono k (k + k2 + 1) (by omega)) k (k + k2) (by omega) _ _ _ h1]
    exact execD_mono (callD_mono k2 (k + k2 + 1) (by omega)) k2 (k + k2) (by omega) _ _ _ h3
  | exit id =>
    refine ⟨⟨k + 1, .exit id, st1, ?_, h2⟩⟩
    simp only [execD]
    rw [execD_mono (callD_mono k (k + 1) (by omega)) k k (by omega) _ _ _ h1]
  | ret =>
    refine ⟨⟨k + 1, .ret, st1, ?_, h2⟩⟩
    simp only [execD]
    rw [execD_mono (callD_mono k (k + 1) (by omega)) k k (by omega) _ _ _ h1]
theorem dwp_region {id : Nat} {ops : Array Oper} {st : DSt} {Q : DExit → DSt → Prop} (h : OpsWp P X ops ops.toList st (fun st' => Q .normal st')) : Dwp P X (.region id ops false) st Q := by
  obtain ⟨k, st', h1, h2⟩ := h.ex
  refine ⟨⟨k + 1, .normal, st', ?_, h2⟩⟩
  simp only [execD]
  rw [runOps_mono (callD_mono k (k + 1) (by omega)) _ _ _ h1]
  rfl
theorem ops_nil {all : Array Oper} {st : DSt} {K : DSt → Prop} (h : K st) : OpsWp P X all [] st K := ⟨⟨0, st, rfl, h⟩⟩
/-- An operation, of no guard. -/
theorem ops_cons {all : Array Oper} {o : Oper} {r : List Oper} {st : DSt} {K : DSt → Prop} (hw : Region.wanted o (dyield all st.env) = true)
    (h : OpWp P X o st.env st.H (fun v H => OpsWp P X all r ⟨putD st.env o.dst v, H⟩ K)) : OpsWp P X all (o :: r) st K := by
  obtain ⟨k, v, H, h1, ⟨k2, st', h2, h3⟩⟩ := h.ex
  refine ⟨⟨k + k2, st', ?_, h3⟩⟩
  simp only [runOps, hw, if_true]
  rw [opD_mono (callD_mono k (k + k2) (by omega)) h1]
  exact runOps_mono (callD_mono k2 (k + k2) (by omega)) _ _ _ h2
/-- An operation that its guard leaves out. -/
theorem ops_off {all : Array Oper} {o : Oper} {r : List Oper} {st : DSt} {K : DSt → Prop} (hw : Region.wanted o (dyield all st.env) = false)
    (h : OpsWp P X all r ⟨putD st.env o.dst undefD, st.H⟩ K) : OpsWp P X all (o :: r) st K := by
  obtain ⟨k, st', h2, h3⟩ := h.ex
  refine ⟨⟨k, st', ?_, h3⟩⟩
  simp only [runOps, hw]
  exact h2
/-- An operation that is no call. -/
theorem op_at {o : Oper} {env : List DV} {H : DH} {K : DV → DH → Prop} {v : DV} {H' : DH} (h : opD P (fun _ _ _ => none) o env H = some (v, H')) (hk : K v H') : OpWp P X o env H K :=
  ⟨⟨0, v, H', by
    have := opD_mono (P := P) (cf := fun _ _ _ => none) (cf' := callD P X 0) (fun _ _ _ _ h => by cases h) h
    exact this, hk⟩⟩
/-- An operation of no guard. -/
theorem ops_plain {all : Array Oper} {o : Oper} {r : List Oper} {st : DSt} {K : DSt → Prop} (hg : o.guard = none)
    (h : OpWp P X o st.env st.H (fun v H => OpsWp P X all r ⟨putD st.env o.dst v, H⟩ K)) : OpsWp P X all (o :: r) st K :=
  ops_cons (by unfold Region.wanted; rw [hg]) h
theorem wanted_at {o : Oper} {y : Nat → Option Bool} {g : Nat} {w b : Bool} (hg : o.guard = some (g, w)) (hy : y g = some b) : Region.wanted o y = (b == w) := by
  unfold Region.wanted
  rw [hg]
  simp only [hy]
  cases b <;> cases w <;> rfl
theorem wanted_plain {o : Oper} {y : Nat → Option Bool} (hg : o.guard = none) : Region.wanted o y = true := by unfold Region.wanted; rw [hg]
theorem wanted_on {o : Oper} {y : Nat → Option Bool} {g : Nat} {w b : Bool} (hg : o.guard = some (g, w)) (hy : y g = some b) (hb : b = w) : Region.wanted o y = true := by rw [wanted_at hg hy, hb]; simp
theorem wanted_off1 {o : Oper} {y : Nat → Option Bool} {g : Nat} {b : Bool} (hg : o.guard = some (g, true)) (hy : y g = some b) (hb : b = false) : Region.wanted o y = false := by rw [wanted_at hg hy, hb]; rfl
theorem wanted_off0 {o : Oper} {y : Nat → Option Bool} {g : Nat} {b : Bool} (hg : o.guard = some (g, false)) (hy : y g = some b) (hb : b = true) : Region.wanted o y = false := by rw [wanted_at hg hy, hb]; rfl
theorem ops_on {all : Array Oper} {o : Oper} {r : List Oper} {st : DSt} {K : DSt → Prop} {g : Nat} {w b : Bool} (hg : o.guard = some (g, w)) (hy : dyield all st.env g = some b) (hb : b = w)
    (h : OpWp P X o st.env st.H (fun v H => OpsWp P X all r ⟨putD st.env o.dst v, H⟩ K)) : OpsWp P X all (o :: r) st K :=
  ops_cons (by rw [wanted_at hg hy, hb]; simp) h
theorem ops_off1 {all : Array Oper} {o : Oper} {r : List Oper} {st : DSt} {K : DSt → Prop} {g : Nat} {b : Bool} (hg : o.guard = some (g, true)) (hy : dyield all st.env g = some b) (hb : b = false)
    (h : OpsWp P X all r ⟨putD st.env o.dst undefD, st.H⟩ K) : OpsWp P X all (o :: r) st K :=
  ops_off (by rw [wanted_at hg hy, hb]; rfl) h
theorem ops_off0 {all : Array Oper} {o : Oper} {r : List Oper} {st : DSt} {K : DSt → Prop} {g : Nat} {b : Bool} (hg : o.guard = some (g, false)) (hy : dyield all st.env g = some b) (hb : b = true)
    (h : OpsWp P X all r ⟨putD st.env o.dst undefD, st.H⟩ K) : OpsWp P X all (o :: r) st K :=
  ops_off (by rw [wanted_at hg hy, hb]; rfl) h
theorem ops_split1 {all : Array Oper} {o : Oper} {r : List Oper} {st : DSt} {K : DSt → Prop} {g : Nat} {b : Bool} (hg : o.guard = some (g, true)) (hy : dyield all st.env g = some b)
    (ht : b = true → OpWp P X o st.env st.H (fun v H => OpsWp P X all r ⟨putD st.env o.dst v, H⟩ K)) (hf : b = false → OpsWp P X all r ⟨putD st.env o.dst undefD, st.H⟩ K) : OpsWp P X all (o :: r) st K := by
  cases b with
  | true => exact ops_on hg hy rfl (ht rfl)
  | false => exact ops_off1 hg hy rfl (hf rfl)
theorem ops_split0 {all : Array Oper} {o : Oper} {r : List Oper} {st : DSt} {K : DSt → Prop} {g : Nat} {b : Bool} (hg : o.guard = some (g, false)) (hy : dyield all st.env g = some b)
    (ht : b = false → OpWp P X o st.env st.H (fun v H => OpsWp P X all r ⟨putD st.env o.dst v, H⟩ K)) (hf : b = true → OpsWp P X all r ⟨putD st.env o.dst undefD, st.H⟩ K) : OpsWp P X all (o :: r) st K := by
  cases b with
  | false => exact ops_on hg hy rfl (ht rfl)
  | true => exact ops_off0 hg hy rfl (hf rfl)
theorem op_pick {o : Oper} {c x y : Operand} (ho : o.op = .pick c x y) {env : List DV} {H : DH} {K : DV → DH → Prop} {b : Bool} (hc : evalO env c = some (.bool b)) (ht : b = true → ∃ v, evalO env x = some v ∧ K v H) (hf : b = false → ∃ v, evalO env y = some v ∧ K v H) : OpWp P X o env H K := by
  cases b with
  | true =>
    obtain ⟨v, h1, h2⟩ := ht rfl
    refine op_at (v := v) (H' := H) ?_ h2
    simp only [opD, ho, mover, reader, pureD, hc, h1]
    rfl
  | false =>
    obtain ⟨v, h1, h2⟩ := hf rfl
    refine op_at (v := v) (H' := H) ?_ h2
    simp only [opD, ho, mover, reader, pureD, hc, h1]
    rfl
theorem op_pick_t {o : Oper} {c x y : Operand} (ho : o.op = .pick c x y) {env : List DV} {H : DH} {K : DV → DH → Prop} {b : Bool} (hc : evalO env c = some (.bool b)) (hb : b = true) {v : DV} (hx : evalO env x = some v) (hk : K v H) : OpWp P X o env H K :=
  op_pick ho hc (fun _ => ⟨v, hx, hk⟩) (fun h => by rw [hb] at h; cases h)
theorem op_pick_f {o : Oper} {c x y : Operand} (ho : o.op = .pick c x y) {env : List DV} {H : DH} {K : DV → DH → Prop} {b : Bool} (hc : evalO env c = some (.bool b)) (hb : b = false) {v : DV} (hx : evalO env y = some v) (hk : K v H) : OpWp P X o env H K :=
  op_pick ho hc (fun h => by rw [hb] at h; cases h) (fun _ => ⟨v, hx, hk⟩)
theorem dwp_cond_t {c : Operand} {x y : Code} {st : DSt} {Q : DExit → DSt → Prop} {t : Bool} (hc : evalO st.env c = some (.bool t)) (ht : t = true) (h : Dwp P X x st Q) : Dwp P X (.cond c x y) st Q :=
  dwp_cond hc (fun _ => h) (fun hf => by rw [ht] at hf; cases hf)
theorem dwp_cond_f {c : Operand} {x y : Code} {st : DSt} {Q : DExit → DSt → Prop} {t : Bool} (hc : evalO st.env c = some (.bool t)) (ht : t = false) (h : Dwp P X y st Q) : Dwp P X (.cond c x y) st Q :=
  dwp_cond hc (fun hf => by rw [ht] at hf; cases hf) (fun _ => h)
/-- A call. -/
theorem op_call {o : Oper} {c : Call} (ho : o.op = .call c) (hc : isCall o.op = true) {env : List DV} {H : DH} {K : DV → DH → Prop} {f : FuncId} {args : List DV} (h : calleeD P (evalO env) c = some (f, args)) (hk : CallWp P X f args H K) : OpWp P X o env H K := by
  obtain ⟨k, r, H', h1, h2⟩ := hk.ex
  refine ⟨⟨k, r, H', ?_, h2⟩⟩
  unfold opD
  split
  · rename_i heq
    rw [ho] at heq
    cases heq
    rw [h]
    exact h1
  · rename_i heq
    rw [ho] at heq
    cases heq
    rw [h]
    exact h1
  · rename_i h3 h4
    exfalso
    rw [ho] at hc h3 h4
    obtain ⟨callee, as, ts⟩ := c
    cases callee with
    | value x => exact h3 _ _ _ rfl
    | invoke r n => exact h4 _ _ _ _ rfl
    | builtin b => simp [isCall] at hc
/-- What a call of a function's text comes to. -/
def retD (P : Program) (fn : Func) (K : DV → DH → Prop) : DExit → DSt → Prop
  | .normal, st | .ret, st => ∃ r, resultsD P fn st = some r ∧ K r st.H
  | _, _ => False
theorem call_text {f : FuncId} {fn : Func} {c : Code} (hx : X f = none) (hf : P.funcs[f]? = some fn) (hb : fn.body = some c) {args : List DV} {H : DH} {K : DV → DH → Prop}
    (h : Dwp P X c ⟨args ++ List.replicate (fn.ntmps - args.length) undefD, H⟩ (retD P fn K)) : CallWp P X f args H K := by
  obtain ⟨k, e, st, h1, h2⟩ := h.ex
  have h1' := execD_mono (callD_mono k k (by omega)) k (k + 1) (by omega) _ _ _ h1
  cases e with
  | exit id => exact h2.elim
  | normal =>
    obtain ⟨r, h3, h4⟩ := h2
    exact ⟨⟨k + 1, r, st.H, by simp only [callD, hx, hf, hb, h1', h3]; rfl, h4⟩⟩
  | ret =>
    obtain ⟨r, h3, h4⟩ := h2
    exact ⟨⟨k + 1, r, st.H, by simp only [callD, hx, hf, hb, h1', h3]; rfl, h4⟩⟩
/-- The results of a call. -/
def resOf (P : Program) (res : List ResultVar) (env : List DV) (H : DH) : Option DV :=
  match (res.map fun r => match r with
    | .tmp t => some (env.getD t undefD)
    | .cell a t => loadD P t H (env.getD a undefD)) with
  | [v] => v
  | vs => if vs.all Option.isSome then some (.tuple (vs.map fun v => v.getD undefD)) else none
def retR (P : Program) (res : List ResultVar) (K : DV → DH → Prop) : DExit → DSt → Prop
  | .normal, st | .ret, st => ∃ r, resOf P res st.env st.H = some r ∧ K r st.H
  | _, _ => False
/-- A function is entered. -/
theorem enter {f : FuncId} {fn : Func} {c : Code} {n : Nat} {res : Array ResultVar} (hx : X f = none) (hf : P.funcs[f]? = some fn) (hb : fn.body = some c) (hn : fn.ntmps = n) (hr : fn.results = res) {args : List DV} {H : DH} {K : DV → DH → Prop}
    (h : Dwp P X c ⟨args ++ List.replicate (n - args.length) undefD, H⟩ (retR P res.toList K)) : CallWp P X f args H K := by
  subst hn
  subst hr
  refine call_text hx hf hb (h.mono fun e st he => ?_)
  cases e <;> exact he
theorem call_table {f : FuncId} {g : List DV → DH → Option (DV × DH)} (hx : X f = some g) {args : List DV} {H H' : DH} {r : DV} {K : DV → DH → Prop} (h : g args H = some (r, H')) (hk : K r H') : CallWp P X f args H K :=
  ⟨⟨1, r, H', by simp only [callD, hx]; exact h, hk⟩⟩
/-! ### regions that draw their order -/
structure DrawWp (P : Program) (X : Ext) (all : Array Oper) (bef : Array Nat) (l : List Oper) (i : Nat) (seen : List Seen) (was : List Was) (st : DSt) (K : DSt → Prop) : Prop where
  ex : ∃ k st', runDraw P (callD P X k) all bef l i seen was st = some st' ∧ K st'
theorem dwp_draw {id : Nat} {ops : Array Oper} {st : DSt} {Q : DExit → DSt → Prop} (bef : Array Nat) (hbef : Region.before ops = bef) (h : DrawWp P X ops bef ops.toList 0 [] [] st (fun st' => Q .normal st')) : Dwp P X (.region id ops true) st Q := by
  subst hbef
  obtain ⟨k, st', h1, h2⟩ := h.ex
  refine ⟨⟨k + 1, .normal, st', ?_, h2⟩⟩
  simp only [execD]
  rw [runDraw_mono (callD_mono k (k + 1) (by omega)) _ _ _ _ _ _ h1]
  rfl
theorem draw_nil {all : Array Oper} {bef : Array Nat} {i : Nat} {seen : List Seen} {was : List Was} {st : DSt} {K : DSt → Prop} (h : K st) : DrawWp P X all bef [] i seen was st K := ⟨⟨0, st, rfl, h⟩⟩
theorem draw_off {all : Array Oper} {bef : Array Nat} {i : Nat} {seen : List Seen} {was : List Was} {o : Oper} {r : List Oper} {st : DSt} {K : DSt → Prop} (hw : Region.wanted o (dyield all st.env) = false)
    (h : DrawWp P X all bef r (i + 1) seen was ⟨putD st.env o.dst undefD, st.H⟩ K) : DrawWp P X all bef (o :: r) i seen was st K := by
  obtain ⟨k, st', h2, h3⟩ := h.ex
  refine ⟨⟨k, st', ?_, h3⟩⟩
  simp only [runDraw, hw]
  exact h2
theorem draw_pure {all : Array Oper} {bef : Array Nat} {i : Nat} {seen : List Seen} {was : List Was} {o : Oper} {r : List Oper} {st : DSt} {K : DSt → Prop} (hw : Region.wanted o (dyield all st.env) = true) (hm : mover P o.op = false) (hr : reader P o.op = false)
    (h : OpWp P X o st.env st.H (fun v H => DrawWp P X all bef r (i + 1) seen was ⟨putD st.env o.dst v, H⟩ K)) : DrawWp P X all bef (o :: r) i seen was st K := by
  obtain ⟨k, v, H, h1, ⟨k2, st', h2, h3⟩⟩ := h.ex
  refine ⟨⟨k + k2, st', ?_, h3⟩⟩
  simp only [runDraw, hw, if_true]
  rw [opD_mono (callD_mono k (k + k2) (by omega)) h1]
  simp only [hm, hr]
  exact runDraw_mono (callD_mono k2 (k + k2) (by omega)) _ _ _ _ _ _ h2
theorem draw_read {all : Array Oper} {bef : Array Nat} {i : Nat} {seen : List Seen} {was : List Was} {o : Oper} {r : List Oper} {st : DSt} {K : DSt → Prop} (hw : Region.wanted o (dyield all st.env) = true) (hm : mover P o.op = false) (hr : reader P o.op = true)
    (h : OpWp P X o st.env st.H (fun v H => stillWas P (bef.getD i 0) was ⟨i, o, st.env, v⟩ = true ∧ DrawWp P X all bef r (i + 1) (⟨i, o, st.env, v⟩ :: seen) was ⟨putD st.env o.dst v, H⟩ K)) : DrawWp P X all bef (o :: r) i seen was st K := by
  obtain ⟨k, v, H, h1, hs, ⟨k2, st', h2, h3⟩⟩ := h.ex
  refine ⟨⟨k + k2, st', ?_, h3⟩⟩
  simp only [runDraw, hw, if_true]
  rw [opD_mono (callD_mono k (k + k2) (by omega)) h1]
  simp only [hm, hr, hs, if_true]
  exact runDraw_mono (callD_mono k2 (k + k2) (by omega)) _ _ _ _ _ _ h2
theorem draw_move {all : Array Oper} {bef : Array Nat} {i : Nat} {seen : List Seen} {was : List Was} {o : Oper} {r : List Oper} {st : DSt} {K : DSt → Prop} (hw : Region.wanted o (dyield all st.env) = true) (hm : mover P o.op = true)
    (h : OpWp P X o st.env st.H (fun v H => stillAll P (bef.getD i 0) seen H = true ∧ DrawWp P X all bef r (i + 1) seen (⟨i, st.H⟩ :: was) ⟨putD st.env o.dst v, H⟩ K)) : DrawWp P X all bef (o :: r) i seen was st K := by
  obtain ⟨k, v, H, h1, hs, ⟨k2, st', h2, h3⟩⟩ := h.ex
  refine ⟨⟨k + k2, st', ?_, h3⟩⟩
  simp only [runDraw, hw, if_true]
  rw [opD_mono (callD_mono k (k + k2) (by omega)) h1]
  simp only [hm, hs, if_true]
  exact runDraw_mono (callD_mono k2 (k + k2) (by omega)) _ _ _ _ _ _ h2
end
end Go.Det

/- Regions that draw their order, where what is called leaves the heap as it is, or comes behind all that stands before it. -/
namespace Go.Det
set_option linter.unusedVariables false
set_option linter.unusedSimpArgs false
mutual
theorem DV.beq_refl : ∀ (a : DV), DV.beq a a = true
  | .bool a => by simp [DV.beq]
  | .int _ _ => by simp [DV.beq]
  | .str _ => by simp [DV.beq]
  | .ptr _ => by simp [DV.beq]
  | .sl _ _ _ _ => by simp [DV.beq]
  | .map _ => by simp [DV.beq]
  | .nilFunc => by simp [DV.beq]
  | .nilIface => by simp [DV.beq]
  | .iface t v => by simp [DV.beq, DV.beq_refl v]
  | .agg a => by simp [DV.beq, DV.beqs_refl a]
  | .tuple a => by simp [DV.beq, DV.beqs_refl a]
  | .func f a c => by simp [DV.beq, DV.beqs_refl a, DV.beqs_refl c]
theorem DV.beqs_refl : ∀ (a : List DV), DV.beqs a a = true
  | [] => by simp [DV.beqs]
  | x :: a => by simp [DV.beqs, DV.beq_refl x, DV.beqs_refl a]
end
section
variable {P : Program} {X : Ext}
theorem still_of {s : Seen} {H : DH} (h : readD P s.o (evalO s.env) H = some s.v) : s.still P H = true := by
  unfold Seen.still
  rw [h]
  exact DV.beq_refl _
/-- What is left of a region whose operations below b stand before all that comes; what was read since reads the same. -/
structure DrawC (P : Program) (X : Ext) (all : Array Oper) (bef : Array Nat) (b i : Nat) (l : List Oper) (st : DSt) (K : DSt → Prop) : Prop where
  ex : ∀ seen was, (∀ s ∈ seen, s.i < i ∧ (b ≤ s.i → readD P s.o (evalO s.env) st.H = some s.v)) → (∀ w ∈ was, w.i < i ∧ (b ≤ w.i → w.H = st.H)) → DrawWp P X all bef l i seen was st K
theorem dwp_drawc {id : Nat} {ops : Array Oper} {st : DSt} {Q : DExit → DSt → Prop} (bef : Array Nat) (hbef : Region.before ops = bef) (h : DrawC P X ops bef 0 0 ops.toList st (fun st' => Q .normal st')) : Dwp P X (.region id ops true) st Q :=
  dwp_draw bef hbef (h.ex [] [] (by simp) (by simp))
section
variable {all : Array Oper} {bef : Array Nat} {b i : Nat} {o : Oper} {r : List Oper} {st : DSt} {K : DSt → Prop}
theorem drawc_nil (h : K st) : DrawC P X all bef b i [] st K := ⟨fun _ _ _ _ => draw_nil h⟩
theorem drawc_pure (hw : Region.wanted o (dyield all st.env) = true) (hm : mover P o.op = false) (hr : reader P o.op = false) {v : DV} (hv : opD P (fun _ _ _ => none) o st.env st.H = some (v, st.H))
    (h : DrawC P X all bef b (i + 1) r ⟨putD st.env o.dst v, st.H⟩ K) : DrawC P X all bef b i (o :: r) st K :=
  ⟨fun seen was hs hw' => draw_pure hw hm hr (op_at hv (h.ex seen was (fun s m => ⟨by have := (hs s m).1; omega, (hs s m).2⟩) (fun s m => ⟨by have := (hw' s m).1; omega, (hw' s m).2⟩)))⟩
end
end
end Go.Det

/- What a typed row looks like. -/
namespace Go.Det
set_option linter.unusedVariables false
section
variable {P : Program} {H : DH} {t : TypeId} {cs : List DV}
theorem typed_bool (hu : P.underlying t = some .bool) (h : Typed P H t cs) : ∃ b, cs = [.bool b] := by
  cases h <;> simp_all
theorem typed_int {k : IntKind} (hu : P.underlying t = some (.int k)) (h : Typed P H t cs) : ∃ n, cs = [.int k n] ∧ (Lit.int k n).wf = true := by
  cases h <;> simp_all
theorem typed_slice {e : TypeId} (hu : P.underlying t = some (.slice e)) (h : Typed P H t cs) : cs = [.sl none 0 0 true] ∨
    ∃ l n rs, cs = [.sl (some (l, 0, P.cellsOf e)) n rs.length true] ∧ H.obj l = some (.rows true (P.cellsOf e) rs) ∧ n ≤ rs.length ∧ rs.length ≤ maxLen ∧ ∀ (i : Nat) (r : List DV), rs[i]? = some r → Typed P H e r := by
  cases h with
  | nil h1 => exact .inl rfl
  | @slice _ e' l n rs h1 h2 h3 h4 h5 =>
    rw [hu] at h1
    cases h1
    exact .inr ⟨l, n, rs, rfl, h2, h3, h4, h5⟩
  | bool h1 => rw [hu] at h1; cases h1
  | int h1 => rw [hu] at h1; cases h1
  | str h1 => rw [hu] at h1; cases h1
  | struct h1 => rw [hu] at h1; cases h1
  | array h1 => rw [hu] at h1; cases h1
theorem typed_struct {fs : Array Field} (hu : P.underlying t = some (.struct fs)) (h : Typed P H t cs) : cs.length = P.cellsOf t ∧ ∀ f ∈ fs.toList, Typed P H f.type ((cs.drop f.offset).take (P.cellsOf f.type)) := by
  cases h with
  | struct h1 h2 h3 =>
    rw [hu] at h1
    cases h1
    exact ⟨h2, h3⟩
  | nil h1 => rw [hu] at h1; cases h1
  | slice h1 => rw [hu] at h1; cases h1
  | bool h1 => rw [hu] at h1; cases h1
  | int h1 => rw [hu] at h1; cases h1
  | str h1 => rw [hu] at h1; cases h1
  | array h1 => rw [hu] at h1; cases h1
theorem targ_one {d : DV} (hu : ∀ fs, P.underlying t ≠ some (.struct fs)) (hu' : ∀ n e, P.underlying t ≠ some (.array n e)) (h : TArg P H t d) : Typed P H t [d] := by
  unfold TArg at h
  split at h
  · rename_i fs e; exact absurd e (hu fs)
  · rename_i n e' e; exact absurd e (hu' n e')
  · exact h
end
end Go.Det

/- Loads and stores where the heap is told as what was made behind a heap of whatever kind. -/
namespace Go.Det
set_option linter.unusedVariables false
set_option linter.unusedSimpArgs false
section
variable {P : Program} {H : DH}
theorem obj_here {l : Nat} {o : DObj} (h : l = H.next) : (H.new o).obj l = some o := by subst h; simp [DH.new]
theorem obj_skip {l : Nat} {o : DObj} {x : Option DObj} (h : l ≠ H.next) (k : H.obj l = x) : (H.new o).obj l = x := by simp [DH.new, h, k]
theorem obj_set {l : Nat} {o : Option DObj} : (H.set l o).obj l = o := by simp [DH.set]
theorem obj_past {l m : Nat} {o x : Option DObj} (h : l ≠ m) (k : H.obj l = x) : (H.set m o).obj l = x := by simp [DH.set, h, k]
theorem opD_load {cf : CallF} {o : Oper} {t : TypeId} {a : Operand} (ho : o.op = .load t a) {env : List DV} {l i q : Nat} (hp : evalO env a = some (.ptr (some (l, i, q)))) {ro : Bool} {sz : Nat} {rs : List (List DV)} (hobj : H.obj l = some (.rows ro sz rs))
    {r : List DV} (hr : rs[i]? = some r) {v : DV} (hv : partD P t r q = some v) : opD P cf o env H = some (v, H) := by
  simp only [opD, ho, mover, reader, readD, hp, loadD, hobj, hr, hv]
  rfl
theorem opD_store {cf : CallF} {o : Oper} {t : TypeId} {a x : Operand} (ho : o.op = .store t a x) {env : List DV} {l i q : Nat} (hp : evalO env a = some (.ptr (some (l, i, q)))) {v : DV} (hx : evalO env x = some v) {n : Nat} (hn : sizeT P t = some n) (hc : v.cells.length = n)
    {sz : Nat} {rs rs' : List (List DV)} (hobj : H.obj l = some (.rows false sz rs)) (hs : setRow rs i q v.cells = some rs') : opD P cf o env H = some (undefD, H.set l (some (.rows false sz rs'))) := by
  simp only [opD, ho, mover, moveD, hp, hx, storeD, hn, hobj, hc, hs, if_true]
  rfl
theorem opD_eql {cf : CallF} {o : Oper} {t u : TypeId} {x y : Operand} (ho : o.op = .binOp .eql t x y u) {env : List DV} {a b : List DV} (hx : evalO env x = some (.agg a)) (hy : evalO env y = some (.agg b)) {c : Bool} (hc : eqD P t (.agg a) (.agg b) = some c) : opD P cf o env H = some (.bool c, H) := by
  simp only [opD, ho, mover, reader, pureD, hx, hy, binD, hc]
  rfl
theorem opD_neql {cf : CallF} {o : Oper} {t u : TypeId} {x y : Operand} (ho : o.op = .binOp .neq t x y u) {env : List DV} {a b : List DV} (hx : evalO env x = some (.agg a)) (hy : evalO env y = some (.agg b)) {c : Bool} (hc : eqD P t (.agg a) (.agg b) = some c) : opD P cf o env H = some (.bool (!c), H) := by
  simp only [opD, ho, mover, reader, pureD, hx, hy, binD, hc]
  rfl
theorem opD_neqb {cf : CallF} {o : Oper} {t u : TypeId} {x y : Operand} (ho : o.op = .binOp .neq t x y u) {env : List DV} {a b : Bool} (hx : evalO env x = some (.bool a)) (hy : evalO env y = some (.bool b)) (ht : P.underlying t = some .bool) : opD P cf o env H = some (.bool (!(a == b)), H) := by
  simp only [opD, ho, mover, reader, pureD, hx, hy, binD, eqD, eqT, ht]
  rfl
end
end Go.Det

/- What was there stays; tables for functions that read the heap. -/
namespace Go.Det
set_option linter.unusedVariables false
set_option linter.unusedSimpArgs false
/-- Nothing of what there was has changed. -/
structure Above (H H' : DH) : Prop where
  le : H.next ≤ H'.next
  same : ∀ l, l < H.next → H'.obj l = H.obj l
theorem Above.refl (H : DH) : Above H H := ⟨Nat.le_refl _, fun _ _ => rfl⟩
theorem Above.trans {A B C : DH} (h : Above A B) (k : Above B C) : Above A C := ⟨Nat.le_trans h.le k.le, fun l hl => (k.same l (Nat.lt_of_lt_of_le hl h.le)).trans (h.same l hl)⟩
theorem Above.new {A B : DH} (h : Above A B) (o : DObj) : Above A (B.new o) := ⟨Nat.le_succ_of_le h.le, fun l hl => by rw [obj_skip (by have := h.le; omega) (h.same l hl)]⟩
theorem Above.set {A B : DH} (h : Above A B) {l : Nat} (hl : A.next ≤ l) (o : Option DObj) : Above A (B.set l o) := ⟨h.le, fun m hm => obj_past (by omega) (h.same m hm)⟩
theorem Above.obj {A B : DH} (h : Above A B) {l : Nat} {x : Option DObj} (hl : l < A.next) (e : A.obj l = x) : B.obj l = x := (h.same l hl).trans e
/-- All places lie below the next. -/
def WF (H : DH) : Prop := ∀ l o, H.obj l = some o → l < H.next
theorem Agree.wf {ρ : Rho} {H : DH} {w : World} (h : Agree ρ H w) : WF H := fun l o e => by
  obtain ⟨pl, hp, _⟩ := h.obj l o e
  exact h.low l pl hp
theorem WF.new {H : DH} (h : WF H) (o : DObj) : WF (H.new o) := fun l x e => by
  simp only [DH.new] at e ⊢
  split at e
  · omega
  · have := h l x e; omega
section
variable {P : Program} {X : Ext}
theorem opD_index {H : DH} {cf : CallF} {o : Oper} {t e : TypeId} {x ix : Operand} (ho : o.op = .indexAddr t x ix) {env : List DV} {l i z n c : Nat} {ex : Bool} {j : IntKind} {m : Int} (hx : evalO env x = some (.sl (some (l, i, z)) n c ex)) (hix : evalO env ix = some (.int j m))
    (hu : P.underlying t = some (.slice e)) (hs : sizeT P e = some z) (hm : 0 ≤ m ∧ m < (n : Int)) : opD P cf o env H = some (.ptr (some (l, i + m.toNat, 0)), H) := by
  simp only [opD, ho, mover, reader, pureD, hx, hix, indexAddrD, hu, hs]
  rw [if_neg (by simp), if_neg (by simp), if_pos ⟨trivial, hm⟩]
  rfl
end
end Go.Det

/- Regions that draw their order, where what is read stays readable in all heaps of a kind, and what is done stays within that kind. -/
namespace Go.Det
set_option linter.unusedVariables false
set_option linter.unusedSimpArgs false
section
variable {P : Program} {X : Ext}
/-- What is left of a region whose operations below b stand before all that comes; what was read since reads the same in each heap of the kind Φ. -/
structure DrawP (P : Program) (X : Ext) (all : Array Oper) (bef : Array Nat) (b : Nat) (Φ : DH → Prop) (i : Nat) (l : List Oper) (st : DSt) (K : DSt → Prop) : Prop where
  ex : ∀ seen was, (∀ s ∈ seen, s.i < i ∧ (b ≤ s.i → ∀ H', Φ H' → readD P s.o (evalO s.env) H' = some s.v)) → (∀ w ∈ was, w.i < i ∧ (b ≤ w.i → Φ w.H)) → Φ st.H → DrawWp P X all bef l i seen was st K
theorem wanted_none {o : Oper} {y : Nat → Option Bool} {g : Nat} {w : Bool} (hg : o.guard = some (g, w)) (hy : y g = none) : Region.wanted o y = false := by unfold Region.wanted; rw [hg]; simp [hy]
theorem ops_offn {all : Array Oper} {o : Oper} {r : List Oper} {st : DSt} {K : DSt → Prop} {g : Nat} {w : Bool} (hg : o.guard = some (g, w)) (hy : dyield all st.env g = none)
    (h : OpsWp P X all r ⟨putD st.env o.dst undefD, st.H⟩ K) : OpsWp P X all (o :: r) st K :=
  ops_off (wanted_none hg hy) h
section
variable {all : Array Oper} {bef : Array Nat} {b i : Nat} {Φ : DH → Prop} {o : Oper} {r : List Oper} {st : DSt} {K : DSt → Prop}
end
end
end Go.Det

/- Slices whose rows are told; slices of one's own, that grow. -/
namespace Go.Det
set_option linter.unusedVariables false
set_option linter.unusedSimpArgs false
theorem junk_facts {A : Prop} {env : List DV} {H H' : DH} {F : (Nat → DV) → List DV} (ha : A) (h : F (fun k => env.getD k undefD) = env) (hH : H = H') : ∃ J : Nat → DV, A ∧ (⟨env, H⟩ : DSt) = ⟨F J, H'⟩ := ⟨_, ha, by rw [h, hH]⟩
/-- A slice's rows: where it leads to, R lie. -/
inductive Sl (H : DH) (z : Nat) (R : List (List DV)) : Option (Nat × Nat × Nat) → Prop
  | nil : R = [] → Sl H z R none
  | at {loc i : Nat} {ro : Bool} {rs : List (List DV)} : loc < H.next → H.obj loc = some (.rows ro z rs) → i + R.length ≤ rs.length → (rs.drop i).take R.length = R → Sl H z R (some (loc, i, z))
section
variable {H H' A : DH} {z : Nat} {R : List (List DV)} {p : Option (Nat × Nat × Nat)}
theorem Sl.rd (h : Sl H z R p) {k : Nat} {r : List DV} (hk : R[k]? = some r) : ∃ loc i ro rs, p = some (loc, i, z) ∧ loc < H.next ∧ H.obj loc = some (.rows ro z rs) ∧ rs[i + k]? = some r := by
  cases h with
  | nil h => subst h; simp at hk
  | @«at» loc i ro rs h1 h2 h3 h4 =>
    refine ⟨loc, i, ro, rs, rfl, h1, h2, ?_⟩
    have hlt := (List.getElem?_eq_some_iff.mp hk).1
    rw [← h4, List.getElem?_take, if_pos hlt, List.getElem?_drop] at hk
    exact hk
theorem Sl.mono (h : Sl H z R p) (ha : Above H H') : Sl H' z R p := by
  cases h with
  | nil h => exact .nil h
  | «at» h1 h2 h3 h4 => exact .at (Nat.lt_of_lt_of_le h1 ha.le) (ha.obj h1 h2) h3 h4
theorem Sl.rows (h : Sl H z R p) (c : Nat) (ex : Bool) : rowsOf H (.sl p R.length c ex) = some R := by
  cases h with
  | nil h => subst h; rfl
  | «at» h1 h2 h3 h4 => simp only [rowsOf, h2, if_pos h3, h4]
theorem Sl.fresh {ro : Bool} : Sl (H.new (.rows ro z R)) z R (some (H.next, 0, z)) := .at (Nat.lt_succ_self _) (obj_here rfl) (by omega) (by simp)
theorem Sl.new (h : Sl H z R p) (o : DObj) : Sl (H.new o) z R p := h.mono ((Above.refl H).new o)
theorem Sl.set (h : Sl H z R p) (m : Nat) (o : Option DObj) (hm : ∀ loc i z, p = some (loc, i, z) → loc ≠ m) : Sl (H.set m o) z R p := by
  cases h with
  | nil h => exact .nil h
  | «at» h1 h2 h3 h4 => exact .at h1 (obj_past (hm _ _ _ rfl) h2) h3 h4
theorem Sl.sub (h : Sl H z R p) {a b : Nat} (hab : a ≤ b) (hb : b ≤ R.length) : Sl H z ((R.drop a).take (b - a)) (p.map fun (l, i, z) => (l, i + a, z)) := by
  cases h with
  | nil h => subst h; exact .nil (by simp)
  | @«at» loc i ro rs h1 h2 h3 h4 =>
    have e : ((R.drop a).take (b - a)).length = b - a := by rw [List.length_take, List.length_drop]; omega
    refine .at h1 h2 (by rw [e]; omega) ?_
    rw [e]
    conv => rhs; rw [← h4]
    rw [List.drop_take, List.take_take, List.drop_drop, Nat.min_eq_left (by omega)]
theorem Sl.size {l i y : Nat} (h : Sl H z R (some (l, i, y))) : y = z := by cases h; rfl
end
/-- All but one place as it was. -/
structure AboveX (x : Nat → Prop) (H H' : DH) : Prop where
  le : H.next ≤ H'.next
  same : ∀ l, l < H.next → ¬ x l → H'.obj l = H.obj l
theorem AboveX.refl {x : Nat → Prop} (H : DH) : AboveX x H H := ⟨Nat.le_refl _, fun _ _ _ => rfl⟩
theorem AboveX.of {x : Nat → Prop} {H H' : DH} (h : Above H H') : AboveX x H H' := ⟨h.le, fun l hl _ => h.same l hl⟩
theorem AboveX.trans {x : Nat → Prop} {A B C : DH} (h : AboveX x A B) (k : AboveX x B C) : AboveX x A C := ⟨Nat.le_trans h.le k.le, fun l hl hx => (k.same l (Nat.lt_of_lt_of_le hl h.le) hx).trans (h.same l hl hx)⟩
theorem AboveX.set (x : Nat → Prop) (H : DH) (l : Nat) (o : Option DObj) (hx : x l) : AboveX x H (H.set l o) := ⟨Nat.le_refl _, fun m _ hm => obj_past (fun e => hm (e ▸ hx)) rfl⟩
theorem AboveX.new (x : Nat → Prop) (H : DH) (o : DObj) : AboveX x H (H.new o) := .of ((Above.refl H).new o)
theorem AboveX.none {H H' : DH} (h : AboveX (fun _ => False) H H') : Above H H' := ⟨h.le, fun l hl => h.same l hl id⟩
/-- A slice of one's own: made since the heap was A, or empty. -/
inductive Mine (A H : DH) (z : Nat) (R : List (List DV)) : DV → Prop
  | nil : R = [] → Mine A H z R (.sl none 0 0 true)
  | empty {loc i : Nat} {ro : Bool} {rs : List (List DV)} : R = [] → loc < H.next → H.obj loc = some (.rows ro z rs) → i ≤ rs.length → Mine A H z R (.sl (some (loc, i, z)) 0 0 true)
  | at {loc : Nat} {ex : Bool} : A.next ≤ loc → loc < H.next → H.obj loc = some (.rows false z R) → Mine A H z R (.sl (some (loc, 0, z)) R.length R.length ex)
section
variable {H H' A : DH} {z : Nat} {R : List (List DV)} {s : DV}
theorem Mine.sl (h : Mine A H z R s) : ∃ p c ex, s = .sl p R.length c ex ∧ Sl H z R p := by
  cases h with
  | nil h => subst h; exact ⟨none, 0, true, rfl, .nil rfl⟩
  | empty h h1 h2 h3 => subst h; exact ⟨_, 0, true, rfl, .at h1 h2 (by simpa using h3) (by simp)⟩
  | «at» h1 h2 h3 => exact ⟨_, _, _, rfl, .at h2 h3 (by omega) (by simp)⟩
theorem Mine.mono (h : Mine A H z R s) (ha : Above H H') : Mine A H' z R s := by
  cases h with
  | nil h => exact .nil h
  | empty h h1 h2 h3 => exact .empty h (Nat.lt_of_lt_of_le h1 ha.le) (ha.obj h1 h2) h3
  | «at» h1 h2 h3 => exact .at h1 (Nat.lt_of_lt_of_le h2 ha.le) (ha.obj h2 h3)
end
/-- The facts of an element's type. -/
structure ElemT (P : Program) (st e : TypeId) (z by_ : Nat) (z0 : DV) : Prop where
  u : P.underlying st = some (.slice e)
  s : sizeT P e = some z
  b : bytesT P e = some by_
  zr : zeroT P e = some z0
  pos : 0 < z
  le : by_ ≤ 4096
  len : z0.cells.length = z
  one : z0.cells.all DV.one = true
section
variable {P : Program} {X : Ext} {st e : TypeId} {z by_ : Nat} {z0 : DV}
/-- A slice that was made. -/
theorem op_make (E : ElemT P st e z by_ z0) {o : Oper} {x y : Operand} (ho : o.op = .makeSlice st x y) {env : List DV} {H : DH} {K : DV → DH → Prop} {n c : Nat} {j k : IntKind} (hx : evalO env x = some (.int j n)) (hy : evalO env y = some (.int k c)) (hn : n ≤ c) (hc : c ≤ mostD)
    (hk : K (.sl (some (H.next, 0, z)) n c true) (H.new (.rows false z (List.replicate c z0.cells)))) : OpWp P X o env H K := by
  obtain ⟨m, rfl⟩ : ∃ m, z = m + 1 := ⟨z - 1, by have := E.pos; omega⟩
  refine op_at ?_ hk
  simp only [opD, ho, mover, moveD, hx, hy, if_true, makeSliceD, E.u, E.s, E.b, E.zr]
  rw [if_pos ⟨by omega, by omega, by omega, E.le, E.len, E.one⟩]
  rfl
end
end Go.Det

/- A row out of what the deterministic reading comes to, all places below the next. -/
namespace Go.Det
set_option linter.unusedVariables false
set_option linter.unusedSimpArgs false
open Go.ChangeShapes Go.WideShapes Go.RowKit
section
variable {P : Program} {A : Type} {enc : TypeId × Value → A} {W : World}
end
end Go.Det

/- What lies at a place, behind a name: so that a fact of another heap is told apart at once. -/
namespace Go.Det
set_option linter.unusedVariables false
structure ObjAt (H : DH) (l : Nat) (o : DObj) : Prop where
  h : H.obj l = some o
theorem ob {H : DH} {l : Nat} {o : DObj} (h : H.obj l = some o) : ObjAt H l o := ⟨h⟩
structure RowAt (rs : List (List DV)) (i : Nat) (r : List DV) : Prop where
  h : rs[i]? = some r
/-- A place that there is. -/
structure Lo (H : DH) (l : Nat) : Prop where
  h : l < H.next
theorem lo {H : DH} {l : Nat} (h : l < H.next) : Lo H l := ⟨h⟩
theorem Lo.new {H : DH} {l : Nat} {o : DObj} (h : Lo H l) : Lo (H.new o) l := ⟨Nat.lt_succ_of_lt h.h⟩
theorem Lo.set {H : DH} {l m : Nat} {o : Option DObj} (h : Lo H l) : Lo (H.set m o) l := ⟨h.h⟩
theorem Lo.self {H : DH} {o : DObj} : Lo (H.new o) H.next := ⟨Nat.lt_succ_self _⟩
theorem Lo.self1 {H : DH} {o o' : DObj} : Lo ((H.new o').new o) (H.next + 1) := ⟨Nat.lt_succ_self _⟩
theorem Lo.self2 {H : DH} {o o' o'' : DObj} : Lo (((H.new o'').new o').new o) (H.next + 2) := ⟨Nat.lt_succ_self _⟩
theorem Lo.ne {H : DH} {l : Nat} (h : Lo H l) : l ≠ H.next := Nat.ne_of_lt h.h
theorem Lo.ne1 {H : DH} {l : Nat} (h : Lo H l) : l ≠ H.next + 1 := Nat.ne_of_lt (Nat.lt_succ_of_lt h.h)
theorem Lo.ne' {H : DH} {l : Nat} (h : Lo H l) : H.next ≠ l := h.ne.symm
theorem Lo.ne1' {H : DH} {l : Nat} (h : Lo H l) : H.next + 1 ≠ l := h.ne1.symm
theorem ne_add1 (n : Nat) : n ≠ n + 1 := by omega
theorem ne_add2 (n : Nat) : n ≠ n + 2 := by omega
theorem ne_add12 (n : Nat) : n + 1 ≠ n + 2 := by omega
theorem ne_add1' (n : Nat) : n + 1 ≠ n := by omega
theorem ne_add2' (n : Nat) : n + 2 ≠ n := by omega
theorem ne_add21 (n : Nat) : n + 2 ≠ n + 1 := by omega
theorem obj_skip_lo {H : DH} {l : Nat} {o : DObj} {x : Option DObj} (h : Lo H l) (k : H.obj l = x) : (H.new o).obj l = x := obj_skip h.ne k
section
variable {P : Program} {X : Ext} {H : DH}
theorem op_load_at {o : Oper} {t : TypeId} {a : Operand} {env : List DV} {K : DV → DH → Prop} {l i q : Nat} {ro : Bool} {sz : Nat} {rs : List (List DV)} {r : List DV} {v : DV} (ho : o.op = .load t a) (hp : evalO env a = some (.ptr (some (l, i, q)))) (hobj : H.obj l = some (.rows ro sz rs))
    (hr : rs[i]? = some r) (hv : partD P t r q = some v) (hk : K v H) : OpWp P X o env H K := op_at (opD_load ho hp hobj hr hv) hk
theorem op_store_at {o : Oper} {t : TypeId} {a x : Operand} {env : List DV} {K : DV → DH → Prop} {l i q : Nat} {v : DV} {n : Nat} {sz : Nat} {rs rs' : List (List DV)} (ho : o.op = .store t a x) (hp : evalO env a = some (.ptr (some (l, i, q)))) (hx : evalO env x = some v)
    (hobj : H.obj l = some (.rows false sz rs)) (hs : setRow rs i q v.cells = some rs') (hn : sizeT P t = some n) (hc : v.cells.length = n) (hk : K undefD (H.set l (some (.rows false sz rs')))) : OpWp P X o env H K := op_at (opD_store ho hp hx hn hc hobj hs) hk
theorem op_index_at {o : Oper} {t e : TypeId} {x ix : Operand} {env : List DV} {K : DV → DH → Prop} {l i z n c : Nat} {ex : Bool} {j : IntKind} {m : Int} (ho : o.op = .indexAddr t x ix) (hx : evalO env x = some (.sl (some (l, i, z)) n c ex)) (hix : evalO env ix = some (.int j m)) (hm : 0 ≤ m ∧ m < (n : Int))
    (hu : P.underlying t = some (.slice e)) (hs : sizeT P e = some z) (hk : K (.ptr (some (l, i + m.toNat, 0))) H) : OpWp P X o env H K := op_at (opD_index ho hx hix hu hs hm) hk
/-- An operand of an index, for the code's own use. -/
structure IdxAt (v : DV) (l i z n c : Nat) (ex : Bool) : Prop where
  h : v = .sl (some (l, i, z)) n c ex
end
end Go.Det

/- Nothing appended. -/
namespace Go.Det
set_option linter.unusedVariables false
set_option linter.unusedSimpArgs false
section
variable {P : Program} {X : Ext}
/-- A slice from a place on. -/
theorem opD_slice_lo {cf : CallF} {o : Oper} {t e : TypeId} {x lo : Operand} (ho : o.op = .slice t x (some lo) none none) {env : List DV} {H : DH} {l i z n c : Nat} {ex : Bool} {j : IntKind} {m : Int} (hx : evalO env x = some (.sl (some (l, i, z)) n c ex)) (hlo : evalO env lo = some (.int j m))
    (hu : P.underlying t = some (.slice e)) (hs : sizeT P e = some z) (hm : 0 ≤ m ∧ m ≤ (n : Int)) : opD P cf o env H = some (.sl (some (l, i + m.toNat, z)) (n - m.toNat) (c - m.toNat) ex, H) := by
  have hb : boundD n (.int j m) = some m.toNat := by simp only [boundD]; rw [if_pos hm]
  have hbd : boundsD n c (some (.int j m)) none none = some (m.toNat, n, c) := by
    rw [show boundsD n c (some (.int j m)) none none = (match boundD n (.int j m) with | none => none | some l => some (l, n, c)) from rfl, hb]
  simp only [opD, ho, mover, reader, pureD, hx, evOpt, hlo, Option.map_some, sliceD, hu, rowSz, hs, hbd]
  simp
/-- A slice up to a place. -/
theorem opD_slice_hi {cf : CallF} {o : Oper} {t e : TypeId} {x hi : Operand} (ho : o.op = .slice t x none (some hi) none) {env : List DV} {H : DH} {l i z n c : Nat} {ex : Bool} {j : IntKind} {m : Int} (hx : evalO env x = some (.sl (some (l, i, z)) n c ex)) (hhi : evalO env hi = some (.int j m))
    (hu : P.underlying t = some (.slice e)) (hs : sizeT P e = some z) (hm : 0 ≤ m ∧ m ≤ (c : Int)) : opD P cf o env H = some (.sl (some (l, i, z)) m.toNat c ex, H) := by
  have hb : boundD c (.int j m) = some m.toNat := by simp only [boundD]; rw [if_pos hm]
  have hbd : boundsD n c none (some (.int j m)) none = some (0, m.toNat, c) := by
    rw [show boundsD n c none (some (.int j m)) none = (match boundD c (.int j m) with | none => none | some h => some (0, h, c)) from rfl, hb]
  simp only [opD, ho, mover, reader, pureD, hx, evOpt, hhi, Option.map_some, sliceD, hu, rowSz, hs, hbd]
  simp
end
end Go.Det

/- More operations: what is left of a division. -/
namespace Go.Det
set_option linter.unusedVariables false
set_option linter.unusedSimpArgs false
section
variable {P : Program} {H : DH}
theorem opD_rem {cf : CallF} {o : Oper} {t u : TypeId} {x y : Operand} (ho : o.op = .binOp .rem t x y u) {env : List DV} {k : IntKind} {a b v : Int} (hx : evalO env x = some (.int k a)) (hy : evalO env y = some (.int k b)) (hb : b ≠ 0) (hv : a.tmod b = v) : opD P cf o env H = some (.int k v, H) := by
  simp only [opD, ho, mover, reader, pureD, hx, hy, binD, arithD, if_true]
  rw [if_neg hb, hv]
  rfl
theorem opD_quo {cf : CallF} {o : Oper} {t u : TypeId} {x y : Operand} (ho : o.op = .binOp .quo t x y u) {env : List DV} {k : IntKind} {a b v : Int} (hx : evalO env x = some (.int k a)) (hy : evalO env y = some (.int k b)) (hb : b ≠ 0) (hv : k.wrap (a.tdiv b) = v) : opD P cf o env H = some (.int k v, H) := by
  simp only [opD, ho, mover, reader, pureD, hx, hy, binD, arithD, if_true]
  rw [if_neg hb, hv]
  rfl
/-! ### results, some of them in cells -/
theorem loadD_at {t : TypeId} {v : DV} {l i q sz : Nat} {ro : Bool} {rs : List (List DV)} {r : List DV} {d : DV} (hp : d = .ptr (some (l, i, q))) (ho : H.obj l = some (.rows ro sz rs)) (hr : rs[i]? = some r) (hv : partD P t r q = some v) : loadD P t H d = some v := by
  subst hp
  simp only [loadD, ho, hr, hv]
theorem resOf_c {a : Tmp} {t : TypeId} {env : List DV} {v : DV} (h : loadD P t H (env.getD a undefD) = some v) : resOf P [.cell a t] env H = some v := by
  simp only [resOf, List.map_cons, List.map_nil, h]
section
variable {X : Ext} {all : Array Oper} {bef : Array Nat} {b i : Nat} {Φ : DH → Prop} {o : Oper} {r : List Oper} {st : DSt} {K : DSt → Prop}
end
end
end Go.Det

/- One's own slice grows: where it leads to. -/
namespace Go.Det
set_option linter.unusedVariables false
set_option linter.unusedSimpArgs false
section
variable {P : Program} {X : Ext} {st e : TypeId} {z by_ : Nat} {z0 : DV}
/-- Something to be shown later. -/
structure Hold (p : Prop) : Prop where
  h : p
/-- A region, cut off: what it leaves. -/
theorem dwp_cutAt {id : Nat} {ops : Array Oper} {dr : Bool} {st : DSt} {Q : DExit → DSt → Prop} (R : DSt → Prop) (h1 : Hold (Dwp P X (.region id ops dr) st (fun e st' => e = .normal ∧ R st'))) (h2 : ∀ st', R st' → Q .normal st') : Dwp P X (.region id ops dr) st Q :=
  h1.h.mono fun e st' he => by obtain ⟨rfl, hr⟩ := he; exact h2 st' hr
/-- An operation whose value is told. -/
theorem op_told {o : Oper} {env : List DV} {H : DH} {K : DV → DH → Prop} {v w : DV} {H' : DH} (h : opD P (fun _ _ _ => none) o env H = some (v, H')) (e : v = w) (hk : K w H') : OpWp P X o env H K := by
  subst e; exact op_at h hk
end
end Go.Det

/- More tables: what is told by fewer is told by more. -/
namespace Go.Det
section
variable {P : Program}
/-- One set of tables tells no less than another. -/
def ExtLe (X X' : Ext) : Prop := ∀ f, (X f = none → X' f = none) ∧ ∀ g, X f = some g → (∀ a H, g a H = none) ∨ ∃ g', X' f = some g' ∧ ∀ a H r, g a H = some r → g' a H = some r
theorem callD_ext {X X' : Ext} (hx : ExtLe X X') : ∀ (k : Nat), CFle (callD P X k) (callD P X' k) := by
  intro k
  induction k with
  | zero => intro f a H r e; simp [callD] at e
  | succ k ih =>
    intro f a H r e
    simp only [callD] at e ⊢
    cases hg : X f with
    | some g =>
      rw [hg] at e
      rcases (hx f).2 g hg with hn | ⟨g', hg', hle⟩
      · simp only [hn] at e; cases e
      · rw [hg']
        exact hle _ _ _ e
    | none =>
      rw [hg] at e
      rw [(hx f).1 hg]
      simp only at e ⊢
      split
      · rename_i fn hf
        rw [hf] at e
        simp only at e
        split
        · rename_i c hc
          rw [hc] at e
          simp only at e
          split at e
          · rename_i st he
            rw [execD_mono ih _ _ (Nat.le_refl _) _ _ _ he]
            exact e
          · rename_i st he
            rw [execD_mono ih _ _ (Nat.le_refl _) _ _ _ he]
            exact e
          · cases e
        · rename_i hc; rw [hc] at e; cases e
      · rename_i hf; rw [hf] at e; cases e
theorem CallWp.up {X X' : Ext} (hx : ExtLe X X') {f : FuncId} {a : List DV} {H : DH} {K : DV → DH → Prop} (h : CallWp P X f a H K) : CallWp P X' f a H K := by
  obtain ⟨k, r, H', hk, hr⟩ := h.ex
  exact ⟨k, r, H', callD_ext hx k _ _ _ _ hk, hr⟩
/-- Tables more, and texts more, for functions that had neither. -/
theorem extLe_more {L M : List FuncId} {E T : List (FuncId × (List DV → DH → Option (DV × DH)))} (h : ((M ++ T.map (·.1)).all fun f => !L.contains f && !(E.map (·.1)).contains f) = true) : ExtLe (Xof L E) (Xof (M ++ L) (T ++ E)) := by
  have look0 : ∀ (E : List (FuncId × (List DV → DH → Option (DV × DH)))) (f : FuncId), f ∉ E.map (·.1) → E.lookup f = none := by
    intro E f
    induction E with
    | nil => intro _; rfl
    | cons x E ih =>
      obtain ⟨a, b⟩ := x
      intro hf
      simp only [List.map_cons, List.mem_cons, not_or] at hf
      have : (f == a) = false := by simpa using hf.1
      simp only [List.lookup, this]
      exact ih hf.2
  have lookA : ∀ (T : List (FuncId × (List DV → DH → Option (DV × DH)))) (f : FuncId), f ∉ T.map (·.1) → (T ++ E).lookup f = E.lookup f := by
    intro T f
    induction T with
    | nil => intro _; rfl
    | cons x T ih =>
      obtain ⟨a, b⟩ := x
      intro hf
      simp only [List.map_cons, List.mem_cons, not_or] at hf
      have : (f == a) = false := by simpa using hf.1
      simp only [List.cons_append, List.lookup, this]
      exact ih hf.2
  intro f
  by_cases hf : f ∈ M ++ T.map (·.1)
  · have hb := List.all_eq_true.mp h f hf
    simp only [Bool.and_eq_true, Bool.not_eq_true', List.contains_eq_mem, decide_eq_false_iff_not] at hb
    have e0 : Xof L E f = some fun _ _ => none := by
      unfold Xof
      rw [look0 E f hb.2]
      simp [hb.1]
    rw [e0]
    exact ⟨fun h => by (cases h), fun g h => by (cases h; exact .inl fun _ _ => rfl)⟩
  · have hf' : f ∉ M ∧ f ∉ T.map (·.1) := ⟨fun h => hf (List.mem_append_left _ h), fun h => hf (List.mem_append_right _ h)⟩
    have e2 : Xof (M ++ L) (T ++ E) f = Xof L E f := by
      unfold Xof
      rw [lookA T f hf'.2]
      have : (M ++ L).contains f = L.contains f := by simp [hf'.1]
      rw [this]
    rw [e2]
    exact ⟨id, fun g h => .inr ⟨g, h, fun _ _ _ k => k⟩⟩
end
end Go.Det

/- Boxes: what a function's variables that live in the heap hold, and what is known of the heap besides. -/
namespace Go.Det
set_option linter.unusedVariables false
set_option linter.unusedSimpArgs false
/-- What hangs on the places S alone. -/
def Stay (S : Nat → Prop) (p : DH → Prop) : Prop := ∀ H H' : DH, H.next ≤ H'.next → (∀ l, S l → H'.obj l = H.obj l) → p H → p H'
structure Fact (H : DH) (bs : List (Nat × DObj)) (f : DH → Prop) : Prop where
  ex : ∃ S, Stay S f ∧ f H ∧ (∀ l, S l → l < H.next) ∧ ∀ b ∈ bs, ¬ S b.1
/-- Behind a heap A there are boxes, and things known that hang on no box. -/
structure Bx (A H : DH) (bs : List (Nat × DObj)) (fs : List (DH → Prop)) : Prop where
  ab : Above A H
  obj : ∀ b ∈ bs, A.next ≤ b.1 ∧ b.1 < H.next ∧ H.obj b.1 = some b.2
  nd : (bs.map (·.1)).Nodup
  fact : ∀ f ∈ fs, Fact H bs f
inductive At (b : Nat) (o : DObj) : List (Nat × DObj) → Prop where
  | here {l} : At b o ((b, o) :: l)
  | there {x l} (h : At b o l) : At b o (x :: l)
theorem At.mem {b : Nat} {o : DObj} {l : List (Nat × DObj)} (h : At b o l) : (b, o) ∈ l := by
  induction h with
  | here => simp
  | there _ ih => simp [ih]
inductive Upd (b : Nat) (o o' : DObj) : List (Nat × DObj) → List (Nat × DObj) → Prop where
  | here {l} : Upd b o o' ((b, o) :: l) ((b, o') :: l)
  | there {x l l'} (h : Upd b o o' l l') : Upd b o o' (x :: l) (x :: l')
theorem Upd.at {b : Nat} {o o' : DObj} {l l' : List (Nat × DObj)} (h : Upd b o o' l l') : At b o l := by
  induction h with
  | here => exact .here
  | there _ ih => exact .there ih
theorem Upd.map {b : Nat} {o o' : DObj} {l l' : List (Nat × DObj)} (h : Upd b o o' l l') : l'.map (·.1) = l.map (·.1) := by
  induction h with
  | here => rfl
  | there _ ih => simp [ih]
theorem Upd.mem {b : Nat} {o o' : DObj} {l l' : List (Nat × DObj)} (h : Upd b o o' l l') (nd : (l.map (·.1)).Nodup) : ∀ x ∈ l', x = (b, o') ∨ (x ∈ l ∧ x.1 ≠ b) := by
  induction h with
  | here =>
    intro x hx
    simp only [List.map_cons, List.nodup_cons, List.mem_map, not_exists, not_and] at nd
    rcases List.mem_cons.mp hx with rfl | hx
    · exact .inl rfl
    · exact .inr ⟨List.mem_cons_of_mem _ hx, nd.1 x hx⟩
  | @there y l l' h ih =>
    intro x hx
    simp only [List.map_cons, List.nodup_cons, List.mem_map, not_exists, not_and] at nd
    rcases List.mem_cons.mp hx with rfl | hx
    · exact .inr ⟨List.mem_cons_self, fun e => nd.1 _ h.at.mem e.symm⟩
    · rcases ih nd.2 x hx with h1 | ⟨h1, h2⟩
      · exact .inl h1
      · exact .inr ⟨List.mem_cons_of_mem _ h1, h2⟩
inductive InF (f : DH → Prop) : List (DH → Prop) → Prop where
  | here {l} : InF f (f :: l)
  | there {x l} (h : InF f l) : InF f (x :: l)
theorem InF.mem {f : DH → Prop} {l : List (DH → Prop)} (h : InF f l) : f ∈ l := by
  induction h with
  | here => simp
  | there _ ih => simp [ih]
section
variable {A H H' : DH} {bs bs' : List (Nat × DObj)} {fs : List (DH → Prop)}
theorem Bx.get (h : Bx A H bs fs) {b : Nat} {o : DObj} (k : At b o bs) : H.obj b = some o := (h.obj _ k.mem).2.2
theorem Bx.has (h : Bx A H bs fs) {f : DH → Prop} (k : InF f fs) : f H := by
  obtain ⟨S, _, h2, _⟩ := (h.fact f k.mem).ex
  exact h2
theorem Bx.init (h : ∀ f ∈ fs, Fact A [] f) : Bx A A [] fs := ⟨Above.refl A, fun b hb => (by cases hb), List.Pairwise.nil, h⟩
theorem Fact.grow {f : DH → Prop} (h : Fact H bs f) (k : Above H H') : Fact H' bs f := by
  obtain ⟨S, h1, h2, h3, h4⟩ := h.ex
  exact ⟨S, h1, h1 H H' k.le (fun l hl => k.same l (h3 l hl)) h2, fun l hl => Nat.lt_of_lt_of_le (h3 l hl) k.le, h4⟩
theorem Bx.grow (h : Bx A H bs fs) (k : Above H H') : Bx A H' bs fs :=
  ⟨h.ab.trans k, fun b hb => ⟨(h.obj b hb).1, Nat.lt_of_lt_of_le (h.obj b hb).2.1 k.le, k.obj (h.obj b hb).2.1 (h.obj b hb).2.2⟩, h.nd, fun f hf => (h.fact f hf).grow k⟩
theorem Bx.box (h : Bx A H bs fs) (o : DObj) : Bx A (H.new o) ((H.next, o) :: bs) fs := by
  have h' := h.grow ((Above.refl H).new o)
  refine ⟨h'.ab, fun b hb => ?_, ?_, fun f hf => ?_⟩
  · rcases List.mem_cons.mp hb with rfl | hb
    · exact ⟨h.ab.le, Nat.lt_succ_self _, obj_here rfl⟩
    · exact h'.obj b hb
  · simp only [List.map_cons, List.nodup_cons, List.mem_map, not_exists, not_and]
    refine ⟨fun x hx e => ?_, h.nd⟩
    have := (h.obj x hx).2.1
    omega
  · obtain ⟨S, h1, h2, h3, h4⟩ := (h.fact f hf).ex
    refine ⟨S, h1, h1 H _ (Nat.le_succ _) (fun l hl => obj_skip (Nat.ne_of_lt (h3 l hl)) rfl) h2, fun l hl => Nat.lt_succ_of_lt (h3 l hl), fun b hb => ?_⟩
    rcases List.mem_cons.mp hb with rfl | hb
    · exact fun hs => Nat.lt_irrefl _ (h3 _ hs)
    · exact h4 b hb
theorem Bx.put (h : Bx A H bs fs) {b : Nat} {o o' : DObj} (k : Upd b o o' bs bs') : Bx A (H.set b (some o')) bs' fs := by
  have hb := h.obj _ k.at.mem
  refine ⟨h.ab.set hb.1 _, fun x hx => ?_, by rw [k.map]; exact h.nd, fun f hf => ?_⟩
  · rcases k.mem h.nd x hx with rfl | ⟨h1, h2⟩
    · exact ⟨hb.1, hb.2.1, obj_set⟩
    · obtain ⟨h3, h4, h5⟩ := h.obj x h1
      exact ⟨h3, h4, obj_past h2 h5⟩
  · obtain ⟨S, h1, h2, h3, h4⟩ := (h.fact f hf).ex
    have hn := h4 _ k.at.mem
    refine ⟨S, h1, h1 H _ (Nat.le_refl _) (fun l hl => obj_past (fun e => hn (e ▸ hl)) rfl) h2, h3, fun x hx => ?_⟩
    rcases k.mem h.nd x hx with rfl | ⟨h5, _⟩
    · exact hn
    · exact h4 x h5
/-- What is known no more. -/
theorem Bx.less {fs' : List (DH → Prop)} (h : Bx A H bs fs) (k : ∀ f ∈ fs', f ∈ fs) : Bx A H bs fs' := ⟨h.ab, h.obj, h.nd, fun f hf => h.fact f (k f hf)⟩
theorem Bx.fewer (h : Bx A H bs fs) (k : ∀ b ∈ bs', b ∈ bs) (nd : (bs'.map (·.1)).Nodup) : Bx A H bs' fs :=
  ⟨h.ab, fun b hb => h.obj b (k b hb), nd, fun f hf => by
    obtain ⟨S, h1, h2, h3, h4⟩ := (h.fact f hf).ex
    exact ⟨S, h1, h2, h3, fun b hb => h4 b (k b hb)⟩⟩
theorem Bx.sub (h : Bx A H bs fs) (k : bs'.Sublist bs) : Bx A H bs' fs := h.fewer (fun b hb => k.subset hb) (List.Nodup.sublist (k.map _) h.nd)
theorem Bx.one {f : DH → Prop} (h : Bx A H bs (f :: fs)) : Bx A H bs [f] := h.less fun x hx => by
  rw [List.mem_singleton] at hx; subst hx; exact List.mem_cons_self
theorem Bx.two {f g : DH → Prop} (h : Bx A H bs (f :: g :: fs)) : Bx A H bs [f, g] := h.less fun x hx => by
  simp only [List.mem_cons, List.not_mem_nil, or_false] at hx ⊢
  rcases hx with rfl | rfl
  · exact .inl rfl
  · exact .inr (.inl rfl)
theorem Bx.drop1 {x : Nat × DObj} (h : Bx A H (x :: bs) fs) : Bx A H bs fs := h.sub (List.sublist_cons_self _ _)
section
variable {P : Program} {X : Ext} {o : Oper} {env : List DV} {K : DV → DH → Prop}
theorem bx_box {t : TypeId} {x : Operand} {v : DV} {cs : List DV} {n : Nat} (ho : o.op = .box t x) (hx : evalO env x = some v) (hc : v.cells = cs) (h1 : cs.all DV.one = true) (hn : cs.length = n) (hB : Bx A H bs fs)
    (hk : ∀ b H', Bx A H' ((b, .rows false n [cs]) :: bs) fs → K (.ptr (some (b, 0, 0))) H') : OpWp P X o env H K := by
  subst hc hn
  refine op_at (v := .ptr (some (H.next, 0, 0))) (H' := H.new (.rows false v.cells.length [v.cells])) ?_ (hk _ _ (hB.box _))
  simp only [opD, ho, mover, moveD, hx, newVarD, h1, if_true]
theorem bx_alloc {t : TypeId} {z : DV} {cs : List DV} {n : Nat} (ho : o.op = .alloc t) (hz : zeroT P t = some z) (hc : z.cells = cs) (h1 : cs.all DV.one = true) (hn : cs.length = n) (ht : (t == bldT) = false) (hB : Bx A H bs fs)
    (hk : ∀ b H', Bx A H' ((b, .rows false n [cs]) :: bs) fs → K (.ptr (some (b, 0, 0))) H') : OpWp P X o env H K := by
  subst hc hn
  refine op_at (v := .ptr (some (H.next, 0, 0))) (H' := H.new (.rows false z.cells.length [z.cells])) ?_ (hk _ _ (hB.box _))
  simp only [opD, ho, mover, moveD, hz, allocD, ht, newVarD, h1, if_true, Bool.false_eq_true, if_false]
theorem bx_allocB {z : DV} {ex : Bool} (ho : o.op = .alloc bldT) (hz : zeroT P bldT = some (.agg [.ptr none, .sl none 0 0 ex])) (hB : Bx A H bs fs)
    (hk : ∀ b H', Bx A H' ((b, .lib (.bld false none 0)) :: bs) fs → K (.ptr (some (b, 0, 0))) H') : OpWp P X o env H K := by
  refine op_at (v := .ptr (some (H.next, 0, 0))) (H' := H.new (.lib (.bld false none 0))) ?_ (hk _ _ (hB.box _))
  simp only [opD, ho, mover, moveD, hz, allocD, beq_self_eq_true, newBldD, if_true]
theorem bx_store {t : TypeId} {a x : Operand} {b i q sz n : Nat} {rs rs' : List (List DV)} {v : DV} (ho : o.op = .store t a x) (hp : evalO env a = some (.ptr (some (b, i, q)))) (hx : evalO env x = some v) (hB : Bx A H bs fs)
    (hu : Upd b (.rows false sz rs) (.rows false sz rs') bs bs') (hs : setRow rs i q v.cells = some rs') (hn : sizeT P t = some n) (hc : v.cells.length = n) (hk : ∀ H', Bx A H' bs' fs → K undefD H') : OpWp P X o env H K :=
  op_store_at ho hp hx (hB.get hu.at) hs hn hc (hk _ (hB.put hu))
/-- A load where the row is at place 0. -/
theorem bx_load0 {t : TypeId} {a : Operand} {b q sz : Nat} {ro : Bool} {r : List DV} {v : DV} (ho : o.op = .load t a) (hp : evalO env a = some (.ptr (some (b, 0, q)))) (hB : Bx A H bs fs) (hm : At b (.rows ro sz [r]) bs)
    (hv : partD P t r q = some v) (hk : K v H) : OpWp P X o env H K := op_load_at ho hp (hB.get hm) rfl hv hk
/-- A whole box is written. -/
theorem bx_store0 {t : TypeId} {a x : Operand} {b sz n : Nat} {r cs : List DV} {v : DV} (ho : o.op = .store t a x) (hp : evalO env a = some (.ptr (some (b, 0, 0)))) (hx : evalO env x = some v) (hB : Bx A H bs fs) (hc : v.cells = cs)
    (hu : Upd b (.rows false sz [r]) (.rows false sz [cs]) bs bs') (hl : r.length = cs.length) (h1 : cs.all DV.one = true) (hn : sizeT P t = some n) (hcn : cs.length = n) (hk : ∀ H', Bx A H' bs' fs → K undefD H') : OpWp P X o env H K := by
  subst hc
  refine op_store_at (rs' := [v.cells]) ho hp hx (hB.get hu.at) ?_ hn hcn (hk _ (hB.put hu))
  simp only [setRow, List.getElem?_cons_zero, h1, and_true, Nat.zero_add, hl, Nat.le_refl, if_true, List.set_cons_zero]
  rw [splice, Nat.zero_add, ← hl, List.drop_length, List.append_nil, List.take_zero, List.nil_append]
/-- Part of a box is written. -/
theorem bx_store1 {t : TypeId} {a x : Operand} {b q sz n : Nat} {r cs r' : List DV} {v : DV} (ho : o.op = .store t a x) (hp : evalO env a = some (.ptr (some (b, 0, q)))) (hx : evalO env x = some v) (hB : Bx A H bs fs) (hc : v.cells = cs)
    (hm : At b (.rows false sz [r]) bs) (hr : splice r q cs = r') (hu : Upd b (.rows false sz [r]) (.rows false sz [r']) bs bs') (hl : q + cs.length ≤ r.length) (h1 : cs.all DV.one = true) (hn : sizeT P t = some n) (hcn : cs.length = n) (hk : ∀ H', Bx A H' bs' fs → K undefD H') : OpWp P X o env H K := by
  subst hc hr
  refine op_store_at (rs' := [splice r q v.cells]) ho hp hx (hB.get hu.at) ?_ hn hcn (hk _ (hB.put hu))
  simp only [setRow, List.getElem?_cons_zero, h1, hl, and_true, if_true, List.set_cons_zero]
end
end
end Go.Det

/- Maps in boxes. -/
namespace Go.Det
set_option linter.unusedVariables false
set_option linter.unusedSimpArgs false
section
variable {P : Program} {X : Ext} {A H : DH} {bs bs' : List (Nat × DObj)} {fs : List (DH → Prop)} {o : Oper} {env : List DV} {K : DV → DH → Prop}
theorem bx_makemap {t kt e : TypeId} (ho : o.op = .makeMap t none) (hu : P.underlying t = some (.map kt e)) (hB : Bx A H bs fs) (hk : ∀ b H', Bx A H' ((b, .map []) :: bs) fs → K (.map (some b)) H') : OpWp P X o env H K := by
  refine op_at (v := .map (some H.next)) (H' := H.new (.map [])) ?_ (hk _ _ (hB.box _))
  simp only [opD, ho, mover, moveD, hu, if_true]
theorem bx_lookup {t kt e : TypeId} {a k : Operand} {ok : Bool} {b i : Nat} {kv v : DV} {es : List (DV × DV)} (ho : o.op = .lookup t a k ok) (ha : evalO env a = some (.map (some b))) (hk : evalO env k = some kv) (hu : P.underlying t = some (.map kt e)) (hB : Bx A H bs fs) (hm : At b (.map es) bs)
    (hko : keyOk P kt kv = true) (hf : findD P kt kv es = some (some (i, v))) (hr : K (if ok then .tuple [v, .bool true] else v) H) : OpWp P X o env H K := by
  refine op_at ?_ hr
  simp only [opD, ho, mover, reader, readD, ha, hk, lookupD, hu, hko, if_true, mapEs, hB.get hm, hf]
  rfl
theorem bx_lookup0 {t kt e : TypeId} {a k : Operand} {ok : Bool} {b : Nat} {kv z : DV} {es : List (DV × DV)} (ho : o.op = .lookup t a k ok) (ha : evalO env a = some (.map (some b))) (hk : evalO env k = some kv) (hu : P.underlying t = some (.map kt e)) (hB : Bx A H bs fs) (hm : At b (.map es) bs)
    (hko : keyOk P kt kv = true) (hf : findD P kt kv es = some none) (hz : zeroT P e = some z) (hr : K (if ok then .tuple [z, .bool false] else z) H) : OpWp P X o env H K := by
  refine op_at ?_ hr
  simp only [opD, ho, mover, reader, readD, ha, hk, lookupD, hu, hko, if_true, mapEs, hB.get hm, hf, hz, Option.map_some]
  rfl
theorem bx_update1 {t kt e : TypeId} {a k x : Operand} {b i : Nat} {kv v u : DV} {es : List (DV × DV)} (ho : o.op = .mapUpdate t a k x) (ha : evalO env a = some (.map (some b))) (hk : evalO env k = some kv) (hx : evalO env x = some v) (hu : P.underlying t = some (.map kt e)) (hB : Bx A H bs fs)
    (hup : Upd b (.map es) (.map (es.set i (kv, v))) bs bs') (hko : keyOk P kt kv = true) (hf : findD P kt kv es = some (some (i, u))) (hr : ∀ H', Bx A H' bs' fs → K undefD H') : OpWp P X o env H K := by
  refine op_at (v := undefD) (H' := H.set b (some (.map (es.set i (kv, v))))) ?_ (hr _ (hB.put hup))
  simp only [opD, ho, mover, moveD, ha, hk, hx, updateD, hu, hB.get hup.at, hko, if_true, setEntry, hf, Option.map_some]
theorem Upd.same {b : Nat} {o : DObj} {l : List (Nat × DObj)} (h : At b o l) : Upd b o o l l := by
  induction h with
  | here => exact .here
  | there _ ih => exact .there ih
theorem bx_entry0 {t kt e : TypeId} {a k : Operand} {b : Nat} {kv z : DV} {es es2 : List (DV × DV)} (ho : o.op = .mapEntry t a k) (ha : evalO env a = some (.map (some b))) (hk : evalO env k = some kv) (hu : P.underlying t = some (.map kt e)) (hz : zeroT P e = some z) (hB : Bx A H bs fs)
    (hup : Upd b (.map es) (.map es2) bs bs') (he : es2 = es ++ [(kv, z)]) (hE : eraseOk = false) (hko : keyOk P kt kv = true) (hf : findD P kt kv es = some none) (hr : ∀ H', Bx A H' bs' fs → K (.tuple [z, .int .i64 (es.length : Int)]) H') : OpWp P X o env H K := by
  subst he
  refine op_at (v := .tuple [z, .int .i64 (es.length : Int)]) (H' := H.set b (some (.map (es ++ [(kv, z)])))) ?_ (hr _ (hB.put hup))
  simp only [opD, ho, mover, moveD, ha, hk, entryD, hu, hB.get hup.at, hz, hko, hE, if_true, hf, Bool.false_eq_true, if_false]
theorem bx_entry1 {t kt e : TypeId} {a k : Operand} {b i : Nat} {kv z u : DV} {es es2 : List (DV × DV)} (ho : o.op = .mapEntry t a k) (ha : evalO env a = some (.map (some b))) (hk : evalO env k = some kv) (hu : P.underlying t = some (.map kt e)) (hz : zeroT P e = some z) (hB : Bx A H bs fs)
    (hup : Upd b (.map es) (.map es2) bs bs') (he : es2 = es.set i (kv, u)) (hE : eraseOk = false) (hko : keyOk P kt kv = true) (hf : findD P kt kv es = some (some (i, u))) (hr : ∀ H', Bx A H' bs' fs → K (.tuple [u, .int .i64 (i : Int)]) H') : OpWp P X o env H K := by
  subst he
  refine op_at (v := .tuple [u, .int .i64 (i : Int)]) (H' := H.set b (some (.map (es.set i (kv, u))))) ?_ (hr _ (hB.put hup))
  simp only [opD, ho, mover, moveD, ha, hk, entryD, hu, hB.get hup.at, hz, hko, hE, if_true, hf, Bool.false_eq_true, if_false]
theorem bx_entryStore {t : TypeId} {a s x : Operand} {b i : Nat} {kv u v : DV} {es es2 : List (DV × DV)} (ho : o.op = .entryStore t a s x) (ha : evalO env a = some (.map (some b))) (hs : evalO env s = some (.int .i64 (i : Int))) (hx : evalO env x = some v) (hB : Bx A H bs fs)
    (hup : Upd b (.map es) (.map es2) bs bs') (he : es2 = es.set i (kv, v)) (hE : eraseOk = false) (hi : es[i]? = some (kv, u)) (hr : ∀ H', Bx A H' bs' fs → K undefD H') : OpWp P X o env H K := by
  subst he
  refine op_at (v := undefD) (H' := H.set b (some (.map (es.set i (kv, v))))) ?_ (hr _ (hB.put hup))
  have h0 : (0 : Int) ≤ (i : Int) := by omega
  simp only [opD, ho, mover, moveD, ha, hs, hx, entryStoreD, hB.get hup.at, hE, Bool.false_eq_true, if_false, h0, if_true, Int.toNat_natCast, hi, Option.map_some]
theorem bx_lookupF {t kt e : TypeId} {a k : Operand} {b i : Nat} {kv v : DV} {es : List (DV × DV)} (ho : o.op = .lookup t a k false) (ha : evalO env a = some (.map (some b))) (hk : evalO env k = some kv) (hu : P.underlying t = some (.map kt e)) (hB : Bx A H bs fs) (hm : At b (.map es) bs)
    (hko : keyOk P kt kv = true) (hf : findD P kt kv es = some (some (i, v))) (hr : K v H) : OpWp P X o env H K := bx_lookup ho ha hk hu hB hm hko hf hr
theorem bx_lookup0F {t kt e : TypeId} {a k : Operand} {b : Nat} {kv z : DV} {es : List (DV × DV)} (ho : o.op = .lookup t a k false) (ha : evalO env a = some (.map (some b))) (hk : evalO env k = some kv) (hu : P.underlying t = some (.map kt e)) (hB : Bx A H bs fs) (hm : At b (.map es) bs)
    (hko : keyOk P kt kv = true) (hf : findD P kt kv es = some none) (hz : zeroT P e = some z) (hr : K z H) : OpWp P X o env H K := bx_lookup0 ho ha hk hu hB hm hko hf hz hr
theorem bx_update1e {t kt e : TypeId} {a k x : Operand} {b i : Nat} {kv v u : DV} {es es2 : List (DV × DV)} (ho : o.op = .mapUpdate t a k x) (ha : evalO env a = some (.map (some b))) (hk : evalO env k = some kv) (hx : evalO env x = some v) (hu : P.underlying t = some (.map kt e)) (hB : Bx A H bs fs)
    (hko : keyOk P kt kv = true) (hf : findD P kt kv es = some (some (i, u))) (he : es.set i (kv, v) = es2) (hup : Upd b (.map es) (.map es2) bs bs') (hr : ∀ H', Bx A H' bs' fs → K undefD H') : OpWp P X o env H K := by
  subst he; exact bx_update1 ho ha hk hx hu hB hup hko hf hr
/-! ### keys of a kind -/
variable {κ : Type} [DecidableEq κ]
/-- The entry of a key. -/
def findM (a : κ) : List (κ × DV) → Option (Nat × DV)
  | [] => none
  | (k, v) :: r => if a = k then some (0, v) else (findM a r).map fun y => (y.1 + 1, y.2)
def mapE (kd : κ → DV) (M : List (κ × DV)) : List (DV × DV) := M.map fun x => (kd x.1, x.2)
theorem find_mapE {kt : TypeId} {kd : κ → DV} (hk : ∀ a b, keq P kt (kd a) (kd b) = some (decide (a = b))) (a : κ) : ∀ (M : List (κ × DV)), findD P kt (kd a) (mapE kd M) = some (findM a M)
  | [] => rfl
  | (k, v) :: r => by
    simp only [mapE, List.map_cons, findD, hk, findM]
    by_cases e : a = k
    · simp only [e, decide_true, if_true]
    · simp only [e, decide_false, if_false]
      have := find_mapE hk a r
      unfold mapE at this
      rw [this]
      rfl
end
end Go.Det

/- A region in which a slice is built beside a call, in open order: what is built floats, until the text's order comes to it. -/
namespace Go.Det
set_option linter.unusedVariables false
set_option linter.unusedSimpArgs false
section
variable {P : Program} {ρ : Rho}
/-- A block that no place leads to, told by a place that comes later. -/
structure Floats (ρ : Rho) (H : DH) (w : World) (pl : Pl) (o : DObj) : Prop where
  lt : pl.block < w.heap.size
  not : ∀ l q, ρ l = some q → q.block ≠ pl.block
  obj : ObjR ρ pl w.heap[pl.block]? o
  own : ¬ Own ρ H pl.block
theorem Floats.land {H : DH} {w : World} {pl : Pl} {o : DObj} (h : Floats ρ H w pl o) {ρ1 : Rho} {H1 : DH} {w1 : World} (m : Moves ρ H w ρ1 H1 w1) (hro : o.ro = false) : Agree (ρ1.add H1.next pl) (H1.new o) w1 ∧ ρ1.le (ρ1.add H1.next pl) := by
  have ha := m.agree
  have hle := Rho.le_add ha pl
  have hne : ∀ l q, ρ1 l = some q → q.block ≠ pl.block := by
    intro l q hq e
    rcases m.fresh l q hq with h1 | h1 | h1
    · exact h.not l q h1 e
    · have := h.lt; omega
    · rw [e] at h1; exact h.own h1
  refine ⟨⟨?_, ?_, ?_, ?_⟩, hle⟩
  · intro l q hq
    unfold Rho.add at hq
    split at hq
    · rename_i e; subst e; exact Nat.lt_succ_self _
    · exact Nat.lt_succ_of_lt (ha.low l q hq)
  · intro l q hq
    unfold Rho.add at hq
    split at hq
    · cases hq; exact Nat.lt_of_lt_of_le h.lt m.size
    · exact ha.lies l q hq
  · intro l x hx
    simp only [DH.new] at hx
    split at hx
    · rename_i e
      subst e
      cases hx
      refine ⟨pl, Rho.add_same _ _ _, ?_⟩
      rw [m.same _ h.lt h.own]
      exact h.obj.mono (Rho.le_trans m.le hle)
    · obtain ⟨q, hq, hr⟩ := ha.obj l x hx
      exact ⟨q, hle _ _ hq, hr.mono hle⟩
  · intro l l' x x' q q' hn hx hx' hr hq hq'
    simp only [DH.new] at hx hx'
    unfold Rho.add at hq hq'
    split at hx
    · rename_i e
      rw [if_pos e] at hq
      cases hq
      rw [if_neg (by omega)] at hq' hx'
      exact fun e2 => hne l' q' hq' e2.symm
    · rename_i e
      rw [if_neg e] at hq
      split at hx'
      · rename_i e'
        rw [if_pos e'] at hq'
        cases hq'
        exact hne l q hq
      · rename_i e'
        rw [if_neg e'] at hq'
        exact ha.apart l l' x x' q q' hn hx hx' hr hq hq'
theorem Floats.moves {ρ0 : Rho} {H0 H : DH} {w0 w : World} {pl : Pl} {o : DObj} (h : Floats ρ H w pl o) (hw : Moves ρ0 H0 w0 ρ H w) (hb : w0.heap.size ≤ pl.block) {ρ1 : Rho} {H1 : DH} {w1 : World} (m : Moves ρ H w ρ1 H1 w1) (hro : o.ro = false) : Moves ρ0 H0 w0 (ρ1.add H1.next pl) (H1.new o) w1 := by
  obtain ⟨h1, h2⟩ := h.land m hro
  have k := hw.trans m
  refine ⟨Rho.le_trans k.le h2, h1, k.os, k.tape, k.output, k.drawn, k.size, k.same, ?_, ?_⟩
  · rintro b ⟨l, x, q, hx, hr, hq, rfl⟩
    simp only [DH.new] at hx
    unfold Rho.add at hq
    split at hx
    · rename_i e; rw [if_pos e] at hq; cases hq; exact .inr hb
    · rename_i e; rw [if_neg e] at hq; exact k.own _ ⟨l, x, q, hx, hr, hq, rfl⟩
  · intro l q hq
    unfold Rho.add at hq
    split at hq
    · cases hq; exact .inr (.inl hb)
    · exact k.fresh l q hq
/-- What was made floats. -/
theorem floats_of {H : DH} {w w' : World} {ρ' : Rho} {o : DObj} (ha : Agree ρ H w) (m : Moves ρ H w ρ' (H.new o) w') (hro : o.ro = false) (hc : ∀ pl b, ObjR ρ' pl b o → ObjR ρ pl b o) :
    ∃ pl, ρ' H.next = some pl ∧ w.heap.size ≤ pl.block ∧ Floats ρ H w' pl o ∧ Moves ρ H w ρ H w' := by
  obtain ⟨pl, hpl, ho⟩ := m.agree.obj H.next o (by simp [DH.new])
  have hkeep : ∀ l x, H.obj l = some x → (H.new o).obj l = some x := fun l x e => by
    have := ha.lt e
    simp only [DH.new]
    rw [if_neg (by omega)]
    exact e
  have hnot : ¬ Own ρ H pl.block := by
    rintro ⟨l, x, q, hx, hr, hq, e⟩
    have hl := ha.lt hx
    exact m.agree.apart l H.next x o q pl (by omega) (hkeep l x hx) (by simp [DH.new]) hr (m.le _ _ hq) hpl e
  have hb : w.heap.size ≤ pl.block := by
    rcases m.own pl.block ⟨H.next, o, pl, by simp [DH.new], hro, hpl, rfl⟩ with h | h
    · exact absurd h hnot
    · exact h
  refine ⟨pl, hpl, hb, ⟨m.agree.lies _ _ hpl, fun l q hq e => ?_, hc _ _ ho, hnot⟩, m.drop ha hkeep⟩
  have := ha.lies l q hq
  omega
theorem rows1_narrow {ρ' : Rho} (hle : ρ.le ρ') {z : Nat} {d : DV} {v : Value} (hv : VR ρ d v) {pl : Pl} {b : Option Obj} (h : ObjR ρ' pl b (.rows false z [d.cells])) : ObjR ρ pl b (.rows false z [d.cells]) := by
  have hc := VR.cells hv
  refine ⟨h.1, h.2.1, fun i r hr => ⟨(h.2.2.1 i r hr).1, fun j x hx => ?_⟩, h.2.2.2⟩
  obtain ⟨h1, c, h2, h3⟩ := (h.2.2.1 i r hr).2 j x hx
  have hrd : r = d.cells := by
    cases i with
    | zero => simpa using hr.symm
    | succ i => simp at hr
  subst hrd
  obtain ⟨y, _, hy⟩ := VRs.get j hc hx
  exact ⟨h1, c, h2, VR.narrow hle _ _ _ hy h3⟩
theorem buildRows_one {sz : Nat} {z v : DV} {rs : List (List DV)} (h : buildRows (sz + 1) (zerosD z.cells 1) [(0, v)] = some rs) : rs = [v.cells] := by
  unfold buildRows at h
  split at h
  · simp only [buildRows, zerosD] at h
    simpa using h.symm
  · cases h
theorem progOk_of2 {L S : List FuncId} {E : List (FuncId × (List DV → DH → Option (DV × DH)))} (hmix : P.follows .mixedOrders = true) (hL : L.all (fun f => okB P f || S.contains f) = true)
    (hS : ∀ f ∈ S, ∀ fn c, P.funcs[f]? = some fn → fn.body = some c → (fn.name == "runtime.NumGoroutine") = false ∧ CodeOk P c) (hE : ∀ f g, (f, g) ∈ E → ExtSound P g f) : ProgOk P (Xof L E) where
  mix := hmix
  body := fun f fn c hx hf hb => by
    by_cases hs : S.contains f = true
    · exact hS f (List.contains_iff_mem.mp hs) fn c hf hb
    · unfold Xof at hx
      split at hx
      · cases hx
      · split at hx
        · rename_i hc
          have := List.all_eq_true.mp hL f (List.contains_iff_mem.mp hc)
          rw [Bool.or_eq_true] at this
          have := this.resolve_right hs
          unfold okB at this
          rw [hf] at this
          simp only [hb, Bool.and_eq_true, Bool.not_eq_true'] at this
          exact ⟨this.1, codeOk_spec hmix this.2⟩
        · cases hx
  ext := fun f g hx => by
    have h0 := (progOk_of (L := []) (E := E) hmix rfl hE).ext f
    unfold Xof at hx h0
    split at hx
    · rename_i g' hg
      rw [hg] at h0
      exact h0 g (by rw [← hx])
    · split at hx
      · cases hx
      · cases hx; exact ext_nothing f
end
end Go.Det

/- A region in which one slice is built in open order with what else changes the heap: what is built floats, until the text's order comes to it. -/
namespace Go.Det
set_option linter.unusedVariables false
set_option linter.unusedSimpArgs false
/-- What a region must be like in which operation j0 may float. -/
def floatOk (P : Program) (ops : Array Oper) (j0 : Nat) : Bool :=
  (List.range ops.size).all fun j => match ops[j]? with
    | none => true
    | some y => y.guard.isNone && (match y.op with | .select .. => false | _ => true) && y.after.toList.all (fun e => !Region.binds .any e || (decide (e.on < j) && (decide (e.on ≠ j0) || ((Region.before ops).getD j 0).testBit j0))) &&
      (decide (j = j0) || ((Region.before ops).getD j 0).testBit j0 || (match dstOf ops j0 with | none => true | some t => !(y.looksAt ops).contains t && y.dst != some t)) &&
      ((List.range j0).all fun i => match ops[i]? with
        | none => true
        | some x => !((Region.before ops).getD j 0).testBit j0 || !mover P x.op || ((Region.before ops).getD j 0).testBit i) &&
      (List.range j).all fun i => match ops[i]? with
        | none => true
        | some x => ((Region.before ops).getD j 0).testBit i || (x.apart ops y && (decide (j = j0) || !(mover P x.op && mover P y.op)))
structure FloatOk (P : Program) (ops : Array Oper) (j0 : Nat) : Prop where
  edge : ∀ j y e, ops[j]? = some y → e ∈ y.after.toList → Region.binds .any e = true → e.on < j
  edge0 : ∀ j y e, ops[j]? = some y → e ∈ y.after.toList → Region.binds .any e = true → e.on = j0 → ((Region.before ops).getD j 0).testBit j0 = true
  pair : ∀ i j x y, i < j → ops[i]? = some x → ops[j]? = some y → ((Region.before ops).getD j 0).testBit i = false → x.apart ops y = true ∧ (j ≠ j0 → mover P x.op = true → mover P y.op = false)
  alone : ∀ j y t, ops[j]? = some y → j ≠ j0 → ((Region.before ops).getD j 0).testBit j0 = false → dstOf ops j0 = some t → t ∉ y.looksAt ops ∧ y.dst ≠ some t
  all : ∀ j y i x, ops[j]? = some y → ((Region.before ops).getD j 0).testBit j0 = true → i < j0 → ops[i]? = some x → mover P x.op = true → ((Region.before ops).getD j 0).testBit i = true
  guard : ∀ (j : Nat) (y : Oper), ops[j]? = some y → y.guard = none
  sel : ∀ (j : Nat) (y : Oper), ops[j]? = some y → ∀ cs b, y.op ≠ .select cs b
theorem floatOk_spec {P : Program} {ops : Array Oper} {j0 : Nat} (h : floatOk P ops j0 = true) : FloatOk P ops j0 := by
  unfold floatOk at h
  rw [List.all_eq_true] at h
  have key : ∀ j y, ops[j]? = some y → _ := fun j y hy => by
    have := h j (List.mem_range.mpr (Array.getElem?_eq_some_iff.mp hy).1)
    rw [hy] at this
    simp only [Bool.and_eq_true] at this
    exact this
  constructor
  · intro j y e hy he hb
    have := (key j y hy).1.1.1.2
    rw [List.all_eq_true] at this
    have := this e he
    simp only [hb, Bool.not_true, Bool.false_or, Bool.and_eq_true, decide_eq_true_eq] at this
    exact this.1
  · intro j y e hy he hb h0
    have := (key j y hy).1.1.1.2
    rw [List.all_eq_true] at this
    have := this e he
    simp only [hb, Bool.not_true, Bool.false_or, Bool.and_eq_true, Bool.or_eq_true, decide_eq_true_eq] at this
    exact this.2.resolve_left (fun e' => e' h0)
  · intro i j x y hij hx hy hbit
    have := (key j y hy).2
    rw [List.all_eq_true] at this
    have := this i (List.mem_range.mpr hij)
    rw [hx] at this
    simp only [hbit, Bool.false_or, Bool.and_eq_true, Bool.or_eq_true, decide_eq_true_eq, Bool.not_eq_true', Bool.and_eq_false_iff] at this
    refine ⟨this.1, fun hj hm => ?_⟩
    rcases this.2.resolve_left hj with h' | h'
    · rw [hm] at h'; cases h'
    · exact h'
  · intro j y t hy hj hbit ht
    have := (key j y hy).1.1.2
    rw [ht, hbit] at this
    simp only [Bool.or_false, Bool.or_eq_true, decide_eq_true_eq, Bool.and_eq_true, Bool.not_eq_true', bne_iff_ne] at this
    have := this.resolve_left hj
    refine ⟨fun hm => ?_, this.2⟩
    have h2 := this.1
    rw [List.contains_iff_mem.mpr hm] at h2
    cases h2
  · intro j y i x hy hbit hi hx hm
    have := (key j y hy).1.2
    rw [List.all_eq_true] at this
    have := this i (List.mem_range.mpr hi)
    rw [hx] at this
    simp only [hbit, hm, Bool.not_true, Bool.false_or] at this
    exact this
  · intro j y hy
    have := (key j y hy).1.1.1.1.1
    simpa using this
  · intro j y hy cs b e
    have := (key j y hy).1.1.1.1.2
    rw [e] at this
    cases this
section
variable {P : Program} {ρ : Rho}
theorem pred_listed {ops : Array Oper} {L : Nat → Bool} (hdown : ∀ k o e, ops[k]? = some o → L k = true → e ∈ o.after.toList → Region.binds .any e = true → L e.on = true) :
    ∀ k q, ops[k]? = some q → (∀ e ∈ q.after.toList, Region.binds .any e = true → L e.on = true) → ∀ i, ((Region.before ops).getD k 0).testBit i = true → L i = true := by
  intro k
  induction k using Nat.strongRecOn with
  | _ k ihk =>
    intro q hq' hed i hbit
    obtain ⟨e, he, hb, hc⟩ := before_bit hq' hbit
    rcases hc with hc | ⟨hlt, hbit'⟩
    · rw [← hc]; exact hed e he hb
    · have hon := hed e he hb
      have hkn : k < ops.size := (Array.getElem?_eq_some_iff.mp hq').1
      obtain ⟨q2, hq2⟩ : ∃ o, ops[e.on]? = some o := ⟨ops[e.on], Array.getElem?_eq_getElem (by omega)⟩
      exact ihk e.on hlt q2 hq2 (fun e2 he2 hb2 => hdown e.on q2 e2 hq2 hon he2 hb2) i hbit'
theorem ready_none {ops : Array Oper} (hedge : ∀ j y e, ops[j]? = some y → e ∈ y.after.toList → Region.binds .any e = true → e.on < j) {listed : Array Bool} (hsz : listed.size = ops.size) (hr : Region.ready .any ops listed = []) : ∀ k, k < ops.size → listed.getD k false = true := by
  intro k
  induction k using Nat.strongRecOn with
  | _ k ihk =>
    intro hk
    rcases hb : listed.getD k false with _ | _
    · exfalso
      obtain ⟨o, ho⟩ : ∃ o, ops[k]? = some o := ⟨ops[k], Array.getElem?_eq_getElem hk⟩
      unfold Region.ready at hr
      rw [List.filter_eq_nil_iff] at hr
      have := hr k (List.mem_range.mpr hk)
      apply this
      have h2 : listed.getD k true = false := by
        rw [Array.getD_eq_getD_getElem?] at hb ⊢
        rw [Array.getElem?_eq_getElem (by omega)] at hb ⊢
        exact hb
      rw [h2, ho]
      simp only [Bool.not_false, Bool.true_and, Option.map_some, Option.getD_some]
      rw [← Array.all_toList, List.all_eq_true]
      intro e he
      rcases hbe : Region.binds .any e with _ | _
      · rfl
      · have hlt := hedge k o e ho he hbe
        simp only [Bool.not_true, Bool.false_or]
        exact ihk e.on hlt (by omega)
    · rfl
theorem trace_env {cf : CallF} {ops : Array Oper} {bef : Array Nat} {E : Nat → List DV} {HH : Nat → DH} {V : Nat → DV} (ht : Trace P cf ops bef 0 E HH V) : ∀ j, j ≤ ops.size → E j = envM ops V (fun k => decide (k < j)) (List.range ops.size) (E 0) := by
  intro j
  induction j with
  | zero =>
    intro _
    have : ∀ (l : List Nat) (e : List DV), envM ops V (fun k => decide (k < 0)) l e = e := by
      intro l
      induction l with
      | nil => intro e; rfl
      | cons k l ih => intro e; exact ih e
    rw [this]
  | succ j ih =>
    intro hj
    obtain ⟨o, ho⟩ : ∃ o, ops[j]? = some o := ⟨ops[j], Array.getElem?_eq_getElem (by omega)⟩
    rw [ht.env j o (by omega) ho, ih (by omega)]
    have := envM_add (ops := ops) (V := V) (A := fun k => decide (k < j)) (B := fun k => decide (k < j + 1)) (j := j) (n := ops.size) (by omega) (by simp) (fun k => by
      by_cases h : k < j
      · simp [h]; omega
      · by_cases h2 : k = j
        · simp [h2]
        · simp [h, h2]; omega) (fun k hk _ ha => by simp at ha; omega) (E 0)
    rw [this]
    simp [dstOf, ho]
theorem trace_heap {cf : CallF} {ops : Array Oper} {bef : Array Nat} {E : Nat → List DV} {HH : Nat → DH} {V : Nat → DV} (ht : Trace P cf ops bef 0 E HH V) : ∀ d i, i + d ≤ ops.size → (∀ k o, i ≤ k → k < i + d → ops[k]? = some o → Trace.on ops E k o → mover P o.op = false) → HH (i + d) = HH i := by
  intro d
  induction d with
  | zero => intro i _ _; rfl
  | succ d ih =>
    intro i hi hno
    obtain ⟨o, ho⟩ : ∃ o, ops[i + d]? = some o := ⟨ops[i + d], Array.getElem?_eq_getElem (by omega)⟩
    have h1 : HH (i + d + 1) = HH (i + d) := by
      by_cases hon : Trace.on ops E (i + d) o
      · exact (opD_stays (ht.op _ o (by omega) ho hon) (hno _ o (by omega) (by omega) ho hon)).1
      · exact (ht.off _ o (by omega) ho hon).2
    show HH (i + d + 1) = HH i
    rw [h1]
    exact ih i (by omega) fun k o hk1 hk2 => hno k o hk1 (by omega)
theorem slots_at {cf : CallF} {ops : Array Oper} {j0 : Nat} (hok : FloatOk P ops j0) {E : Nat → List DV} {HH : Nat → DH} {V : Nat → DV} (ht : Trace P cf ops (Region.before ops) 0 E HH V) {w : World} {fuel : Nat} {L : Nat → Bool} {a : Act} {ρ1 : Rho} {w1 : World} {m : Nat}
    (inv : DrawInv P ops E HH V ρ w fuel L a ρ1 w1 m) {j : Nat} {o : Oper} (ho : ops[j]? = some o) (hLj : L j = false) (hedges : ∀ e ∈ o.after.toList, Region.binds .any e = true → L e.on = true) :
    ∀ t, (t ∈ o.looksAt ops ∨ o.dst = some t) → (envM ops V L (List.range ops.size) (E 0))[t]? = (E j)[t]? := by
  have hE := trace_env ht
  have hjn : j < ops.size := (Array.getElem?_eq_some_iff.mp ho).1
  -- what stands ahead has been performed
  have hpred : ∀ k q, ops[k]? = some q → (∀ e ∈ q.after.toList, Region.binds .any e = true → L e.on = true) → ∀ i, ((Region.before ops).getD k 0).testBit i = true → L i = true := by
    intro k
    induction k using Nat.strongRecOn with
    | _ k ihk =>
      intro q hq' hed i hbit
      obtain ⟨e, he, hb, hc⟩ := before_bit hq' hbit
      rcases hc with hc | ⟨hlt, hbit'⟩
      · rw [← hc]; exact hed e he hb
      · have hon := hed e he hb
        have hkn : k < ops.size := (Array.getElem?_eq_some_iff.mp hq').1
        obtain ⟨q2, hq2⟩ : ∃ o, ops[e.on]? = some o := ⟨ops[e.on], Array.getElem?_eq_getElem (by omega)⟩
        exact ihk e.on hlt q2 hq2 (fun e2 he2 hb2 => inv.down e.on q2 e2 hq2 hon he2 hb2) i hbit'
  have hpredj := hpred j o ho hedges
  have hback : ∀ k q, ops[k]? = some q → ((Region.before ops).getD k 0).testBit j = true → L k = false := by
    intro k q hq' hbit
    rcases hb : L k with _ | _
    · rfl
    · have := hpred k q hq' (fun e he hbb => inv.down k q e hq' hb he hbb) j hbit
      rw [hLj] at this
      cases this
  -- which writers of what it looks at, and of what it writes, have been performed
  have hwr : ∀ k t, k ≠ j → dstOf ops k = some t → (t ∈ o.looksAt ops ∨ o.dst = some t) → (L k = decide (k < j)) := by
    intro k t hne hd hlook
    obtain ⟨q, hq', hqd⟩ : ∃ q, ops[k]? = some q ∧ q.dst = some t := by
      unfold dstOf at hd
      cases hk : ops[k]? with
      | none => rw [hk] at hd; cases hd
      | some q => rw [hk] at hd; exact ⟨q, rfl, hd⟩
    rcases Nat.lt_or_gt_of_ne hne with hlt | hgt
    · rw [decide_eq_true hlt]
      rcases hb : ((Region.before ops).getD j 0).testBit k with _ | _
      · exfalso
        obtain ⟨hap, _⟩ := hok.pair k j q o hlt hq' ho hb
        obtain ⟨h1, h2, h3⟩ := Oper.apart_spec hap
        rcases hlook with hl | hl
        · exact h1 t hqd hl
        · exact h2 t hqd hl
      · exact hpredj k hb
    · rw [decide_eq_false (by omega)]
      rcases hb : ((Region.before ops).getD k 0).testBit j with _ | _
      · exfalso
        obtain ⟨hap, _⟩ := hok.pair j k o q hgt ho hq' hb
        obtain ⟨h1, h2, h3⟩ := Oper.apart_spec hap
        rcases hlook with hl | hl
        · exact h3 t hqd hl
        · exact h2 t hl hqd
      · exact hback k q hq' hb
  intro t hl
  rw [hE j (by omega)]
  refine envM_get _ _ _ rfl fun k hk hd => ?_
  by_cases e : k = j
  · subst e; rw [hLj]; simp
  · exact hwr k t e hd hl
/-- One operation more. -/
theorem draw_step {cf : CallF} (hcf : CFSound P cf) {ops : Array Oper} {j0 : Nat} (hok : FloatOk P ops j0) {E : Nat → List DV} {HH : Nat → DH} {V : Nat → DV} (ht : Trace P cf ops (Region.before ops) 0 E HH V) {Q : Exit → Act → World → Prop} {w : World} {fuel : Nat} {L L' : Nat → Bool} {a : Act} {ρ1 : Rho} {w1 : World} {m : Nat}
    (inv : DrawInv P ops E HH V ρ w (fuel + 1) L a ρ1 w1 m) {j : Nat} {o : Oper} (ho : ops[j]? = some o) (hLj : L j = false) (hedges : ∀ e ∈ o.after.toList, Region.binds .any e = true → L e.on = true)
    (hj : j ≠ j0 ∨ ∀ i q, i < j0 → ops[i]? = some q → mover P q.op = true → L i = true) (hL' : ∀ k, L' k = (L k || decide (k = j))) {K : Act → World → Prop}
    (hK : ∀ v w2 ρ2 m2, DrawInv P ops E HH V ρ w fuel L' (a.put o.dst v) ρ2 w2 m2 → Moves ρ1 (HH m) w1 ρ2 (HH m2) w2 → K (a.put o.dst v) w2) : wpOp P ops Q j K a w1 := by
  have hE := trace_env ht
  have hH := trace_heap ht
  have hjn : j < ops.size := (Array.getElem?_eq_some_iff.mp ho).1
  -- what stands ahead has been performed
  have hpred : ∀ k q, ops[k]? = some q → (∀ e ∈ q.after.toList, Region.binds .any e = true → L e.on = true) → ∀ i, ((Region.before ops).getD k 0).testBit i = true → L i = true := by
    intro k
    induction k using Nat.strongRecOn with
    | _ k ihk =>
      intro q hq' hed i hbit
      obtain ⟨e, he, hb, hc⟩ := before_bit hq' hbit
      rcases hc with hc | ⟨hlt, hbit'⟩
      · rw [← hc]; exact hed e he hb
      · have hon := hed e he hb
        have hkn : k < ops.size := (Array.getElem?_eq_some_iff.mp hq').1
        obtain ⟨q2, hq2⟩ : ∃ o, ops[e.on]? = some o := ⟨ops[e.on], Array.getElem?_eq_getElem (by omega)⟩
        exact ihk e.on hlt q2 hq2 (fun e2 he2 hb2 => inv.down e.on q2 e2 hq2 hon he2 hb2) i hbit'
  have hpredj := hpred j o ho hedges
  have hback : ∀ k q, ops[k]? = some q → ((Region.before ops).getD k 0).testBit j = true → L k = false := by
    intro k q hq' hbit
    rcases hb : L k with _ | _
    · rfl
    · have := hpred k q hq' (fun e he hbb => inv.down k q e hq' hb he hbb) j hbit
      rw [hLj] at this
      cases this
  -- which writers of what it looks at, and of what it writes, have been performed
  have hwr : ∀ k t, k ≠ j → dstOf ops k = some t → (t ∈ o.looksAt ops ∨ o.dst = some t) → (L k = decide (k < j)) := by
    intro k t hne hd hlook
    obtain ⟨q, hq', hqd⟩ : ∃ q, ops[k]? = some q ∧ q.dst = some t := by
      unfold dstOf at hd
      cases hk : ops[k]? with
      | none => rw [hk] at hd; cases hd
      | some q => rw [hk] at hd; exact ⟨q, rfl, hd⟩
    rcases Nat.lt_or_gt_of_ne hne with hlt | hgt
    · rw [decide_eq_true hlt]
      rcases hb : ((Region.before ops).getD j 0).testBit k with _ | _
      · exfalso
        obtain ⟨hap, _⟩ := hok.pair k j q o hlt hq' ho hb
        obtain ⟨h1, h2, h3⟩ := Oper.apart_spec hap
        rcases hlook with hl | hl
        · exact h1 t hqd hl
        · exact h2 t hqd hl
      · exact hpredj k hb
    · rw [decide_eq_false (by omega)]
      rcases hb : ((Region.before ops).getD k 0).testBit j with _ | _
      · exfalso
        obtain ⟨hap, _⟩ := hok.pair j k o q hgt ho hq' hb
        obtain ⟨h1, h2, h3⟩ := Oper.apart_spec hap
        rcases hlook with hl | hl
        · exact h3 t hqd hl
        · exact h2 t hl hqd
      · exact hback k q hq' hb
  have hslot : ∀ t, (t ∈ o.looksAt ops ∨ o.dst = some t) → (envM ops V L (List.range ops.size) (E 0))[t]? = (E j)[t]? := by
    intro t hl
    rw [hE j (by omega)]
    refine envM_get _ _ _ rfl fun k hk hd => ?_
    by_cases e : k = j
    · subst e; rw [hLj]; simp
    · exact hwr k t e hd hl
  have heval : ∀ x ∈ o.op.operands, evalO (envM ops V L (List.range ops.size) (E 0)) x = evalO (E j) x := by
    intro x hx
    cases x with
    | tmp t =>
      simp only [evalO]
      rw [getD_of (hslot t (.inl ?_))]
      unfold Oper.looksAt
      rw [List.mem_append]
      left
      rw [List.mem_filterMap]
      exact ⟨_, by simpa using hx, rfl⟩
    | _ => rfl
  have hwant : Region.wanted o (dyield ops (envM ops V L (List.range ops.size) (E 0))) = Region.wanted o (dyield ops (E j)) := by
    unfold Region.wanted
    cases hg : o.guard with
    | none => rfl
    | some gw =>
      obtain ⟨g, want⟩ := gw
      simp only
      congr 1
      unfold dyield
      cases hd : (ops[g]?).bind (·.dst) with
      | none => rfl
      | some t =>
        simp only [Option.bind_some]
        rw [hslot t (.inl ?_)]
        unfold Oper.looksAt
        rw [List.mem_append]
        right
        rw [hg]
        simp [hd]
  -- the new slots
  have hdst : dstOf ops j = o.dst := by simp [dstOf, ho]
  have hnew := envM_add (ops := ops) (V := V) (A := fun k => L k) (B := fun k => L' k) (j := j) (n := ops.size) hjn hLj hL' (fun k hk hkn hLk t ht' hkd => by
    rw [hdst] at ht'
    have := hwr k t (by omega) hkd (.inr ht')
    rw [hLk, decide_eq_false (by omega)] at this
    cases this) (E 0)
  rw [hdst] at hnew
  -- on to the rest
  have go : ∀ (v : Value) (w2 : World) (ρ2 : Rho) (m2 : Nat), VR ρ2 (V j) v → ρ1.le ρ2 → m2 ≤ ops.size → (∀ k q, ops[k]? = some q → Trace.on ops E k q → mover P q.op = true → (L' k = true ↔ k < m2)) →
      Moves ρ1 (HH m) w1 ρ2 (HH m2) w2 → K (a.put o.dst v) w2 := by
    intro v w2 ρ2 m2 hv hle hm2 hmov hmoves
    refine hK v w2 ρ2 m2 ⟨?_, ?_, ?_, ?_, ?_, hm2, hmov, inv.heap.trans hmoves⟩ hmoves
    · intro k hk
      rw [hL']
      have := inv.out k hk
      rw [this]
      simp
      omega
    · intro k q e hq' hLk he hb
      rw [hL'] at hLk ⊢
      rw [Bool.or_eq_true] at hLk ⊢
      rcases hLk with h | h
      · exact .inl (inv.down k q e hq' h he hb)
      · have := of_decide_eq_true h
        subst this
        rw [ho] at hq'
        cases hq'
        exact .inl (hedges e he hb)
    · have := filter_lt (p := fun k => !L k) (q := fun k => !L' k) (j := j) (fun k hk => by
        rw [hL'] at hk
        simp only [Bool.not_or, Bool.and_eq_true] at hk
        exact hk.1) (by simpa using hLj) (by rw [hL']; simp) (List.range ops.size) (List.mem_range.mpr hjn)
      have hc := inv.cnt
      omega
    · rw [hnew]
      exact (inv.env.mono hle).putD hv o.dst
    · rw [put_defers]; exact inv.defers
  unfold wpOp
  rw [ho]
  simp only
  rw [yield_eq inv.env, hwant]
  by_cases hw : Region.wanted o (dyield ops (E j)) = true
  · rw [if_pos hw]
    left
    have hop := ht.op j o (by omega) ho hw
    have same : ∀ k q, ops[k]? = some q → k ≠ j → (L' k = true ↔ L k = true) := by
      intro k q hq' hne
      rw [hL']
      simp [hne]
    by_cases hmv : mover P o.op = true
    · -- it changes the heap: all that did so ahead of it have been performed, none behind it
      have hmj : m ≤ j := by
        rcases Nat.lt_or_ge j m with h | h
        · have := (inv.mov j o ho hw hmv).mpr h
          rw [hLj] at this
          cases this
        · exact h
      have hbetween : ∀ k q, m ≤ k → k < j → ops[k]? = some q → Trace.on ops E k q → mover P q.op = false := by
        intro k q hk1 hk2 hq' hon
        rcases hb : mover P q.op with _ | _
        · rfl
        · exfalso
          have hnot : L k = false := by
            rcases hb2 : L k with _ | _
            · rfl
            · have := (inv.mov k q hq' hon hb).mp hb2; omega
          rcases hbit : ((Region.before ops).getD j 0).testBit k with _ | _
          · by_cases hj0 : j = j0
            · have := hj.resolve_left (fun e => e hj0) k q (hj0 ▸ hk2) hq' hb
              rw [hnot] at this; cases this
            · have := (hok.pair k j q o hk2 hq' ho hbit).2 hj0 hb
              rw [hmv] at this; cases this
          · have := hpredj k hbit
            rw [hnot] at this; cases this
      have hHm : HH j = HH m := by
        have := hH (j - m) m (by omega) (fun k q hk1 hk2 => hbetween k q hk1 (by omega))
        rwa [show m + (j - m) = j by omega] at this
      rw [hHm, ← opD_congr heval] at hop
      refine op_wp hcf hop inv.env inv.heap.agree fun v w2 ρ2 hv hmoves => ?_
      refine go v w2 ρ2 (j + 1) hv hmoves.le (by omega) (fun k q hq' hon hb => ?_) hmoves
      by_cases e : k = j
      · subst e; rw [hL']; simp
      · rw [same k q hq' e]
        have hi := inv.mov k q hq' hon hb
        rw [hi]
        constructor
        · intro h; omega
        · intro h
          rcases Nat.lt_or_ge k m with h2 | h2
          · exact h2
          · have := hbetween k q h2 (by omega) hq' hon
            rw [hb] at this; cases this
    · have hmv' : mover P o.op = false := by simpa using hmv
      have hmov2 : ∀ k q, ops[k]? = some q → Trace.on ops E k q → mover P q.op = true → (L' k = true ↔ k < m) := by
        intro k q hq' hon hb
        have hne : k ≠ j := fun e => by subst e; rw [ho] at hq'; cases hq'; rw [hmv'] at hb; cases hb
        rw [same k q hq' hne]
        exact inv.mov k q hq' hon hb
      have hval : opD P cf o (envM ops V L (List.range ops.size) (E 0)) (HH m) = some (V j, HH m) := by
        rw [opD_congr heval]
        obtain ⟨hHj, hrd, hpu⟩ := opD_stays hop hmv'
        by_cases hr : reader P o.op = true
        · refine opD_read hmv' hr ?_
          rcases Nat.lt_or_ge j m with hlt | hge
          · -- it was read behind: the last that changed the heap and has been performed
            by_cases hex : ∃ k q, j < k ∧ k < m ∧ ops[k]? = some q ∧ Trace.on ops E k q ∧ mover P q.op = true
            · -- the greatest of these
              have hgreat : ∀ d, d ≤ m → (∃ k q, j < k ∧ k < d ∧ ops[k]? = some q ∧ Trace.on ops E k q ∧ mover P q.op = true) → ∃ k q, j < k ∧ k < d ∧ ops[k]? = some q ∧ Trace.on ops E k q ∧ mover P q.op = true ∧ ∀ k' q', k < k' → k' < d → ops[k']? = some q' → Trace.on ops E k' q' → mover P q'.op = false := by
                intro d
                induction d with
                | zero => rintro _ ⟨k, q, h1, h2, _⟩; omega
                | succ d ihd =>
                  rintro hd ⟨k, q, h1, h2, h3, h4, h5⟩
                  by_cases hlast : ∃ q', ops[d]? = some q' ∧ Trace.on ops E d q' ∧ mover P q'.op = true ∧ j < d
                  · obtain ⟨q', h6, h7, h8, h9⟩ := hlast
                    exact ⟨d, q', h9, by omega, h6, h7, h8, fun k' _ hk1 hk2 => by omega⟩
                  · have hkd : k < d := by
                      rcases Nat.lt_or_ge k d with h | h
                      · exact h
                      · have : k = d := by omega
                        subst this
                        exact absurd ⟨q, h3, h4, h5, h1⟩ hlast
                    obtain ⟨k2, q2, e1, e2, e3, e4, e5, e6⟩ := ihd (by omega) ⟨k, q, h1, hkd, h3, h4, h5⟩
                    refine ⟨k2, q2, e1, by omega, e3, e4, e5, fun k' q' hk1 hk2 hq' hon => ?_⟩
                    rcases Nat.lt_or_ge k' d with h | h
                    · exact e6 k' q' hk1 h hq' hon
                    · have : k' = d := by omega
                      subst this
                      rcases hb : mover P q'.op with _ | _
                      · rfl
                      · exact absurd ⟨q', hq', hon, hb, by omega⟩ hlast
              obtain ⟨k, q, h1, h2, h3, h4, h5, h6⟩ := hgreat m (Nat.le_refl _) hex
              have hHk : HH m = HH (k + 1) := by
                have := hH (m - (k + 1)) (k + 1) (by have := inv.le; omega) (fun k' q' hk1 hk2 hq' hon => h6 k' q' (by omega) (by omega) hq' hon)
                rwa [show k + 1 + (m - (k + 1)) = m by omega] at this
              rw [hHk]
              have hLk := (inv.mov k q h3 h4 h5).mpr h2
              have hbit : ((Region.before ops).getD k 0).testBit j = false := by
                rcases hb : ((Region.before ops).getD k 0).testBit j with _ | _
                · rfl
                · have := hback k q h3 hb
                  rw [hLk] at this; cases this
              exact ht.later j o k q (by omega) h1 ho h3 hw h4 hmv' hr h5 hbit
            · have hHk : HH m = HH j := by
                have := hH (m - j) j (by have := inv.le; omega) (fun k' q' hk1 hk2 hq' hon => by
                  rcases hb : mover P q'.op with _ | _
                  · rfl
                  · exfalso
                    rcases Nat.lt_or_ge j k' with h | h
                    · exact hex ⟨k', q', h, by omega, hq', hon, hb⟩
                    · have : k' = j := by omega
                      subst this
                      rw [ho] at hq'; cases hq'
                      rw [hmv'] at hb; cases hb)
                rwa [show j + (m - j) = m by omega] at this
              rw [hHk]
              exact hrd hr
          · -- it was read ahead: the first that changes the heap and has not been performed
            by_cases hex : ∃ k q, m ≤ k ∧ k < j ∧ ops[k]? = some q ∧ Trace.on ops E k q ∧ mover P q.op = true
            · have hleast : ∀ d, (∃ k q, m ≤ k ∧ k < m + d ∧ ops[k]? = some q ∧ Trace.on ops E k q ∧ mover P q.op = true) → ∃ k q, m ≤ k ∧ k < m + d ∧ ops[k]? = some q ∧ Trace.on ops E k q ∧ mover P q.op = true ∧ ∀ k' q', m ≤ k' → k' < k → ops[k']? = some q' → Trace.on ops E k' q' → mover P q'.op = false := by
                intro d
                induction d with
                | zero => rintro ⟨k, q, h1, h2, _⟩; omega
                | succ d ihd =>
                  rintro ⟨k, q, h1, h2, h3, h4, h5⟩
                  by_cases hbefore : ∃ k q, m ≤ k ∧ k < m + d ∧ ops[k]? = some q ∧ Trace.on ops E k q ∧ mover P q.op = true
                  · obtain ⟨k2, q2, e1, e2, e3⟩ := ihd hbefore
                    exact ⟨k2, q2, e1, by omega, e3⟩
                  · refine ⟨k, q, h1, h2, h3, h4, h5, fun k' q' hk1 hk2 hq' hon => ?_⟩
                    rcases hb : mover P q'.op with _ | _
                    · rfl
                    · exact absurd ⟨k', q', hk1, by omega, hq', hon, hb⟩ hbefore
              obtain ⟨k, q, h1, h2, h3, h4, h5, h6⟩ := hleast (j - m) (by obtain ⟨k, q, e1, e2, e3⟩ := hex; exact ⟨k, q, e1, by omega, e3⟩)
              have hHk : HH k = HH m := by
                have hkn : k < ops.size := (Array.getElem?_eq_some_iff.mp h3).1
                have := hH (k - m) m (by omega) (fun k' q' hk1 hk2 hq' hon => h6 k' q' hk1 (by omega) hq' hon)
                rwa [show m + (k - m) = k by omega] at this
              rw [← hHk]
              have hnot : L k = false := by
                rcases hb2 : L k with _ | _
                · rfl
                · have := (inv.mov k q h3 h4 h5).mp hb2; omega
              have hbit : ((Region.before ops).getD j 0).testBit k = false := by
                rcases hb : ((Region.before ops).getD j 0).testBit k with _ | _
                · rfl
                · have := hpredj k hb
                  rw [hnot] at this; cases this
              exact ht.sooner j o k q (by omega) (by omega) ho h3 hw h4 hmv' hr h5 hbit
            · have hHk : HH j = HH m := by
                have := hH (j - m) m (by omega) (fun k' q' hk1 hk2 hq' hon => by
                  rcases hb : mover P q'.op with _ | _
                  · rfl
                  · exact absurd ⟨k', q', hk1, by omega, hq', hon, hb⟩ hex)
                rwa [show m + (j - m) = j by omega] at this
              rw [← hHk]
              exact hrd hr
        · have hr' : reader P o.op = false := by simpa using hr
          exact opD_pure hmv' hr' (hpu hr')
      refine op_wp hcf hval inv.env inv.heap.agree fun v w2 ρ2 hv hmoves => ?_
      exact go v w2 ρ2 m hv hmoves.le inv.le hmov2 hmoves
  · rw [if_neg hw]
    obtain ⟨hVj, hHj⟩ := ht.off j o (by omega) ho hw
    refine go undef w1 ρ1 m (by rw [hVj]; exact VR_undef _) (Rho.le_refl _) inv.le (fun k q hq' hon hb => ?_) (Moves.refl inv.heap.agree)
    have hne : k ≠ j := fun e => by subst e; rw [ho] at hq'; cases hq'; exact hw hon
    rw [hL']
    simp only [hne, decide_false, Bool.or_false]
    exact inv.mov k q hq' hon hb
theorem wpOp_ghost {ops : Array Oper} {Q : Exit → Act → World → Prop} {j : Nat} {o : Oper} (hj : ops[j]? = some o) {d0 : Tmp} {v0 : Value} (h1 : d0 ∉ o.looksAt ops) (h2 : o.dst ≠ some d0) (hs : ∀ cs b, o.op ≠ .select cs b) {K : Act → World → Prop} {a : Act} {w : World}
    (h : wpOp P ops (fun _ _ _ => False) j (fun a' w' => K (a'.put (some d0) v0) w') a w) : wpOp P ops Q j K (a.put (some d0) v0) w := by
  have k1 : ∀ d, some d0 = some d → d ∉ o.looksAt ops := fun d e => by cases e; exact h1
  have k2 : ∀ u, (a.put (some d0) v0).put o.dst u = (a.put o.dst u).put (some d0) v0 := fun u => Act.put_comm a v0 u (fun d e => by cases e; exact h2)
  unfold wpOp at *
  simp only [hj] at *
  rw [wanted_put o a (some d0) v0 k1]
  split
  · rename_i hw
    simp only [hw, if_true] at h
    rcases h with h | ⟨_, ⟨_, _, hf⟩⟩
    case inr => exact absurd hf id
    refine .inl ?_
    unfold Oper.wp at *
    rw [execOp_put o hs a (some d0) v0 k1]
    generalize (execOp a.eval o).run P w = r at *
    cases r with
    | ok n w' =>
      cases n <;> simp only [Oper.upon] at h ⊢
      case value u => rw [k2]; exact h
      case skip => rw [k2]; exact h
      case defer d =>
        rw [Act.put_defers, Act.put_comm _ v0 undef (fun d e => by cases e; exact h2)]
        exact h
      case enter f args =>
        refine Calls.mono h fun e w'' he => ?_
        cases e with
        | returned u => simp only at he ⊢; rw [k2]; exact he
        | panicked c => exact absurd he id
        | outgrown => obtain ⟨_, _, hf⟩ := he; exact absurd hf id
      case row row args => exact Rows.mono h fun u w'' he => by rw [k2]; exact he
    | halt x w' =>
      cases x <;> simp only [Oper.upon] at h ⊢
  · rename_i hw
    simp only [hw] at h
    rw [k2]; exact h
theorem two_of_filter {p : Nat → Bool} {n x y : Nat} (hx : x < n) (hy : y < n) (hne : x ≠ y) (px : p x = true) (py : p y = true) : 2 ≤ ((List.range n).filter p).length := by
  have mx : x ∈ (List.range n).filter p := by simp [hx, px]
  have my : y ∈ (List.range n).filter p := by simp [hy, py]
  match hl : (List.range n).filter p with
  | [] => rw [hl] at mx; cases mx
  | [z] =>
    rw [hl] at mx my
    simp only [List.mem_singleton] at mx my
    omega
  | _ :: _ :: _ => simp
theorem set_getD_eq {listed : Array Bool} {j n : Nat} (hsz : listed.size = n) (hj : j < n) (k : Nat) : (listed.setIfInBounds j true).getD k false = (listed.getD k false || decide (k = j)) := by
  rw [Array.getD_eq_getD_getElem?, Array.getD_eq_getD_getElem?, Array.getElem?_setIfInBounds]
  by_cases e : j = k
  · subst e
    rw [if_pos rfl, if_pos (by omega)]
    simp
  · rw [if_neg e]
    have : decide (k = j) = false := by simp; exact fun h => e h.symm
    rw [this, Bool.or_false]
theorem build_of {cf : CallF} {o : Oper} {T : TypeId} {p : Tmp} (hop : o.op = .buildSlice T 1 #[(0, .tmp p)]) {env : List DV} {H H' : DH} {d : DV} (h : opD P cf o env H = some (d, H')) :
    ∃ sz, d = .sl (some (H.next, 0, sz + 1)) 1 1 true ∧ H' = H.new (.rows false (sz + 1) [(env.getD p undefD).cells]) ∧
      ∀ env1 (H1 : DH), env1.getD p undefD = env.getD p undefD → opD P cf o env1 H1 = some (.sl (some (H1.next, 0, sz + 1)) 1 1 true, H1.new (.rows false (sz + 1) [(env.getD p undefD).cells])) := by
  have key : ∀ env (H : DH), opD P cf o env H = buildSliceD P T 1 H [(0, env.getD p undefD)] := by
    intro env H
    simp only [opD, hop, mover, moveD, evParts, evalO, if_true]
  rw [key] at h
  unfold buildSliceD at h
  split at h
  · rename_i e hu
    split at h
    · rename_i z sz hz hs
      split at h
      · rename_i hc
        cases hb : buildRows (sz + 1) (zerosD z.cells 1) [(0, env.getD p undefD)] with
        | none => rw [hb] at h; cases h
        | some rs =>
          rw [hb] at h
          have hrs := buildRows_one hb
          subst hrs
          simp only [Option.map_some, Option.some.injEq, Prod.mk.injEq] at h
          refine ⟨sz, h.1.symm, h.2.symm, fun env1 H1 hd => ?_⟩
          rw [key, hd]
          unfold buildSliceD
          simp only [hu, hz, hs]
          rw [if_pos hc, hb]
          rfl
      · cases h
    · cases h
  · cases h
theorem draw_float {cf : CallF} (hcf : CFSound P cf) {ops : Array Oper} {j0 : Nat} (hok : FloatOk P ops j0) {o0 : Oper} (h0 : ops[j0]? = some o0) {T : TypeId} {p d0 : Tmp} (hop : o0.op = .buildSlice T 1 #[(0, .tmp p)]) (hd0 : o0.dst = some d0)
    {E : Nat → List DV} {HH : Nat → DH} {V : Nat → DV} (ht : Trace P cf ops (Region.before ops) 0 E HH V) {Q : Exit → Act → World → Prop} {w : World}
    (hq : ∀ ρ' a' w', EnvR ρ' (E ops.size) a'.tmps → a'.defers = [] → Moves ρ (HH 0) w ρ' (HH ops.size) w' → Q .normal a' w') :
    ∀ (fuel : Nat),
      (∀ (listed : Array Bool) (a : Act) (ρ1 : Rho) (w1 : World) (m : Nat), listed.size = ops.size → DrawInv P ops E HH V ρ w fuel (fun k => listed.getD k false) a ρ1 w1 m → wpAny P .any ops Q fuel listed a w1) ∧
      (∀ (listed : Array Bool) (L : Nat → Bool) (a : Act) (v0 : Value) (ρ1 : Rho) (w1 : World) (m sz : Nat) (pl : Pl), listed.size = ops.size → listed.getD j0 false = true → (∀ k, L k = (listed.getD k false && decide (k ≠ j0))) → (∀ e ∈ o0.after.toList, Region.binds .any e = true → L e.on = true) →
        DrawInv P ops E HH V ρ w (fuel + 1) L a ρ1 w1 m → (∃ i q, i < j0 ∧ ops[i]? = some q ∧ mover P q.op = true ∧ L i = false) →
        V j0 = .sl (some ((HH j0).next, 0, sz + 1)) 1 1 true → HH (j0 + 1) = (HH j0).new (.rows false (sz + 1) [((E j0).getD p undefD).cells]) →
        Floats ρ1 (HH m) w1 pl (.rows false (sz + 1) [((E j0).getD p undefD).cells]) → w.heap.size ≤ pl.block → (∀ ρ' l, ρ' l = some pl → VR ρ' (.sl (some (l, 0, sz + 1)) 1 1 true) v0) → wpAny P .any ops Q fuel listed (a.put (some d0) v0) w1) := by
  have hE := trace_env ht
  have hH := trace_heap ht
  have on : ∀ k o, ops[k]? = some o → Trace.on ops E k o := fun k o h => by unfold Trace.on Region.wanted; rw [hok.guard k o h]
  have hj0n : j0 < ops.size := (Array.getElem?_eq_some_iff.mp h0).1
  have hm0 : mover P o0.op = true := by rw [hop]; rfl
  -- all have been performed
  have done : ∀ (fuel : Nat) (listed : Array Bool) (a : Act) (ρ1 : Rho) (w1 : World) (m : Nat), DrawInv P ops E HH V ρ w fuel (fun k => listed.getD k false) a ρ1 w1 m → (∀ k, k < ops.size → listed.getD k false = true) → Q .normal a w1 := by
    intro fuel listed a ρ1 w1 m inv hall
    have hmask : envM ops V (fun k => listed.getD k false) (List.range ops.size) (E 0) = E ops.size := by
      rw [hE ops.size (Nat.le_refl _)]
      exact envM_congr _ _ fun k hk => by have := List.mem_range.mp hk; rw [hall k this]; simp [this]
    have hHn : HH ops.size = HH m := by
      have := hH (ops.size - m) m (by have := inv.le; omega) (fun k o hk1 hk2 ho hon => by
        rcases hb : mover P o.op with _ | _
        · rfl
        · have hk3 : k < ops.size := (Array.getElem?_eq_some_iff.mp ho).1
          have := (inv.mov k o ho hon hb).mp (hall k hk3)
          omega)
      rwa [show m + (ops.size - m) = ops.size by have := inv.le; omega] at this
    refine hq ρ1 a w1 ?_ inv.defers ?_
    · have := inv.env; rw [hmask] at this; exact this
    · rw [hHn]; exact inv.heap
  intro fuel
  induction fuel with
  | zero =>
    refine ⟨fun listed a ρ1 w1 m hsz inv => ?_, ?_⟩
    · have hall : ∀ k, k < ops.size → listed.getD k false = true := by
        intro k hk
        rcases hb : listed.getD k false with _ | _
        · exfalso
          have hmem : k ∈ (List.range ops.size).filter fun k => !listed.getD k false := by simp [hk]; simpa using hb
          have := inv.cnt
          have h0 := List.length_eq_zero_iff.mp (Nat.le_zero.mp this)
          rw [h0] at hmem
          cases hmem
        · rfl
      refine ⟨?_, done _ _ _ _ _ _ inv hall⟩
      unfold Region.ready
      rw [List.filter_eq_nil_iff]
      intro k hk
      have hk' := List.mem_range.mp hk
      have := hall k hk'
      have h2 : listed.getD k true = true := by
        rw [Array.getD_eq_getD_getElem?] at this ⊢
        rw [Array.getElem?_eq_getElem (by omega)] at this ⊢
        exact this
      simp [h2]
    · intro listed L a v0 ρ1 w1 m sz pl hsz hlj hL _ inv hpend
      exfalso
      obtain ⟨i, q, hi, hq', hmv, hLi⟩ := hpend
      have := inv.cnt
      have h2 := two_of_filter (p := fun k => !L k) (n := ops.size) (x := i) (y := j0) (by omega) hj0n (by omega) (by simp [hLi]) (by simp [hL])
      omega
  | succ fuel ih =>
    obtain ⟨ihA, ihF⟩ := ih
    have split_ready : ∀ {listed : Array Bool} {j : Nat}, listed.size = ops.size → j ∈ Region.ready .any ops listed → ∃ o, ops[j]? = some o ∧ listed.getD j false = false ∧ ∀ e ∈ o.after.toList, Region.binds .any e = true → listed.getD e.on false = true := by
      intro listed j hsz hj
      rw [mem_ready] at hj
      obtain ⟨h1, o, ho, h2⟩ := hj
      have hjn : j < ops.size := (Array.getElem?_eq_some_iff.mp ho).1
      refine ⟨o, ho, ?_, fun e he hb => h2 e (by simpa using he) hb⟩
      rw [Array.getD_eq_getD_getElem?] at h1 ⊢
      rw [Array.getElem?_eq_getElem (by omega)] at h1 ⊢
      exact h1
    refine ⟨fun listed a ρ1 w1 m hsz inv => ⟨fun hr => done _ _ _ _ _ _ inv (ready_none hok.edge hsz hr), fun j hj => ?_⟩, ?_⟩
    · obtain ⟨o, ho, hLj, hedges⟩ := split_ready hsz hj
      have hjn : j < ops.size := (Array.getElem?_eq_some_iff.mp ho).1
      by_cases hcase : j ≠ j0 ∨ ∀ i q, i < j0 → ops[i]? = some q → mover P q.op = true → listed.getD i false = true
      · refine draw_step hcf hok ht inv ho hLj hedges hcase (L' := fun k => (listed.setIfInBounds j true).getD k false) (set_getD_eq hsz hjn) fun v w2 ρ2 m2 inv2 _ => ?_
        exact ihA _ _ ρ2 w2 m2 (by simpa using hsz) inv2
      · -- it is built ahead of the text's order
        simp only [not_or, Classical.not_not, Classical.not_forall] at hcase
        obtain ⟨rfl, i, q, hi, hq', hmv, hLi⟩ := hcase
        rw [h0] at ho; cases ho
        have hLi' : listed.getD i false = false := by simpa using hLi
        obtain ⟨sz, hV, hHn, k3⟩ := build_of hop (ht.op j o0 (Nat.zero_le _) h0 (on _ _ h0))
        have hslot := slots_at hok ht inv h0 hLj hedges
        have hpl : p ∈ o0.looksAt ops := by
          unfold Oper.looksAt
          rw [List.mem_append]
          left
          rw [hop]
          simp [Op.operands]
        have hget : (envM ops V (fun k => listed.getD k false) (List.range ops.size) (E 0)).getD p undefD = (E j).getD p undefD := getD_of (hslot p (.inl hpl))
        unfold wpOp
        rw [h0]
        simp only
        rw [if_pos (by unfold Region.wanted; rw [hok.guard j o0 h0])]
        refine .inl (op_wp hcf (k3 _ (HH m) hget) inv.env inv.heap.agree fun v w2 ρ2 q3 hm3 => ?_)
        obtain ⟨pl, hpl', hb, hf, hmd⟩ := floats_of inv.heap.agree hm3 rfl (fun pl b h => by
          rw [← hget] at h ⊢
          exact rows1_narrow hm3.le (inv.env.get p) h)
        rw [hd0]
        have hL : ∀ k, listed.getD k false = ((listed.setIfInBounds j true).getD k false && decide (k ≠ j)) := by
          intro k
          rw [set_getD_eq hsz hjn]
          by_cases e : k = j
          · subst e; rw [hLj]; simp
          · simp [e]
        refine ihF _ (fun k => listed.getD k false) a v ρ1 w2 m sz pl (by simpa using hsz) (by rw [set_getD_eq hsz hjn]; simp) hL hedges ?_ ⟨i, q, hi, hq', hmv, hLi'⟩ hV hHn hf (Nat.le_trans inv.heap.size hb) fun ρ' l hl => ?_
        · exact ⟨inv.out, inv.down, inv.cnt, inv.env, inv.defers, inv.le, inv.mov, inv.heap.trans hmd⟩
        · simp only [VR] at q3 ⊢
          obtain ⟨pl', a3, c', h4, h5⟩ := q3
          rw [hpl'] at h4; cases h4
          exact ⟨pl, a3, c', hl, h5⟩
    · intro listed L a v0 ρ1 w1 m sz pl hsz hlj hL hedge0 inv hpend hV hHn hf hb hv
      have hLj0 : L j0 = false := by rw [hL]; simp
      have hpl : ∀ k, L k = true → listed.getD k false = true := fun k h => by rw [hL, Bool.and_eq_true] at h; exact h.1
      have hm_le : ∀ {L : Nat → Bool} {fuel a ρ1 w1 m}, DrawInv P ops E HH V ρ w fuel L a ρ1 w1 m → L j0 = false → m ≤ j0 := fun {L fuel a ρ1 w1 m} inv h => by
        rcases Nat.lt_or_ge j0 m with h2 | h2
        · have := (inv.mov j0 o0 h0 (on _ _ h0) hm0).mpr h2
          rw [h] at this; cases this
        · exact h2
      constructor
      · intro hr
        exfalso
        obtain ⟨i, q, hi, hq', hmv, hLi⟩ := hpend
        have := ready_none hok.edge hsz hr i (by omega)
        rw [hL] at hLi
        rw [this] at hLi
        simp at hLi
        omega
      · intro j hj
        obtain ⟨o, ho, hlisted, hedges⟩ := split_ready hsz hj
        have hjn : j < ops.size := (Array.getElem?_eq_some_iff.mp ho).1
        have hne : j ≠ j0 := fun e => by subst e; rw [hlj] at hlisted; cases hlisted
        have hLj : L j = false := by rw [hL, hlisted]; rfl
        -- it does not wait for what floats
        have hbit : ((Region.before ops).getD j 0).testBit j0 = false := by
          rcases hb2 : ((Region.before ops).getD j 0).testBit j0 with _ | _
          · rfl
          · exfalso
            obtain ⟨i, q, hi, hq', hmv, hLi⟩ := hpend
            have h2 := hok.all j o i q ho hb2 hi hq' hmv
            have hdown : ∀ k o e, ops[k]? = some o → listed.getD k false = true → e ∈ o.after.toList → Region.binds .any e = true → listed.getD e.on false = true := by
              intro k q e hk hlk he hb3
              by_cases e3 : k = j0
              · subst e3
                rw [h0] at hk; cases hk
                exact hpl _ (hedge0 e he hb3)
              · exact hpl _ (inv.down k q e hk (by rw [hL, hlk]; simp [e3]) he hb3)
            have := pred_listed (L := fun k => listed.getD k false) hdown j o ho hedges i h2
            rw [hL] at hLi
            rw [this] at hLi
            simp at hLi
            omega
        have hedgesL : ∀ e ∈ o.after.toList, Region.binds .any e = true → L e.on = true := by
          intro e he hb2
          rw [hL, hedges e he hb2]
          simp only [Bool.true_and, decide_eq_true_eq]
          intro e3
          have := hok.edge0 j o e ho he hb2 e3
          rw [hbit] at this; cases this
        have hdst0 : dstOf ops j0 = some d0 := by simp [dstOf, h0, hd0]
        obtain ⟨al1, al2⟩ := hok.alone j o d0 ho hne hbit hdst0
        refine wpOp_ghost ho al1 al2 (hok.sel j o ho) ?_
        refine draw_step hcf hok ht inv ho hLj hedgesL (.inl hne) (L' := fun k => (L k || decide (k = j))) (fun _ => rfl) fun v w2 ρ2 m2 inv2 hstep => ?_
        have hL2 : ∀ k, (L k || decide (k = j)) = ((listed.setIfInBounds j true).getD k false && decide (k ≠ j0)) := by
          intro k
          rw [set_getD_eq hsz hjn, hL]
          by_cases e : k = j
          · subst e; simp [hne]
          · simp [e]
        have hL2j0 : (L j0 || decide (j0 = j)) = false := by rw [hLj0]; simp; exact fun e => hne e.symm
        by_cases hp2 : ∃ i q, i < j0 ∧ ops[i]? = some q ∧ mover P q.op = true ∧ (L i || decide (i = j)) = false
        · -- it floats on
          have hf2 : Floats ρ2 (HH m2) w2 pl (.rows false (sz + 1) [((E j0).getD p undefD).cells]) := by
            refine ⟨Nat.lt_of_lt_of_le hf.lt hstep.size, fun l q hq' e => ?_, ?_, ?_⟩
            · rcases hstep.fresh l q hq' with h1 | h1 | h1
              · exact hf.not l q h1 e
              · have := hf.lt; omega
              · rw [e] at h1; exact hf.own h1
            · rw [hstep.same _ hf.lt hf.own]
              exact hf.obj.mono hstep.le
            · intro h1
              rcases hstep.own _ h1 with h2 | h2
              · exact hf.own h2
              · have := hf.lt; omega
          exact ihF _ (fun k => (L k || decide (k = j))) _ v0 ρ2 w2 m2 sz pl (by simpa using hsz) (by rw [set_getD_eq hsz hjn, hlj]; rfl) hL2 (fun e he hb2 => by simp [hedge0 e he hb2]) inv2 hp2 hV hHn hf2 hb hv
        · -- the text's order has come to it
          have hall : ∀ i q, i < j0 → ops[i]? = some q → mover P q.op = true → (L i || decide (i = j)) = true := by
            intro i q hi hq' hmv
            rcases hb2 : (L i || decide (i = j)) with _ | _
            · exact absurd ⟨i, q, hi, hq', hmv, hb2⟩ hp2
            · rfl
          have hm2 := hm_le inv2 hL2j0
          have hHm : HH j0 = HH m2 := by
            have := hH (j0 - m2) m2 (by omega) (fun k q hk1 hk2 hq' hon => by
              rcases hb2 : mover P q.op with _ | _
              · rfl
              · have := (inv2.mov k q hq' hon hb2).mp (hall k q (by omega) hq' hb2)
                omega)
            rwa [show m2 + (j0 - m2) = j0 by omega] at this
          have hmv := hf.moves inv.heap hb hstep rfl
          have hle : ρ2.le (ρ2.add (HH m2).next pl) := Rho.le_add hstep.agree pl
          have hset : ∀ k, (listed.setIfInBounds j true).getD k false = ((L k || decide (k = j)) || decide (k = j0)) := by
            intro k
            rw [hL2]
            by_cases e : k = j0
            · subst e; rw [set_getD_eq hsz hjn, hlj]; simp
            · simp [e]
          refine ihA _ _ (ρ2.add (HH m2).next pl) w2 (j0 + 1) (by simpa using hsz) ⟨?_, ?_, ?_, ?_, ?_, by omega, ?_, ?_⟩
          · intro k hk
            have h2 := inv2.out k hk
            show (listed.setIfInBounds j true).getD k false = false
            rw [hset, h2]
            simp
            omega
          · intro k q e hq' hk he hb2
            show (listed.setIfInBounds j true).getD e.on false = true
            replace hk : (listed.setIfInBounds j true).getD k false = true := hk
            rw [hset] at hk ⊢
            rw [Bool.or_eq_true] at hk ⊢
            left
            rcases hk with h2 | h2
            · exact inv2.down k q e hq' h2 he hb2
            · have := of_decide_eq_true h2
              subst this
              rw [h0] at hq'; cases hq'
              rw [hedge0 e he hb2]; rfl
          · have h2 := filter_lt (p := fun k => !(L k || decide (k = j))) (q := fun k => !(listed.setIfInBounds j true).getD k false) (j := j0) (fun k hk => by
              rw [hset] at hk
              simp only [Bool.not_or, Bool.and_eq_true] at hk ⊢
              exact hk.1) (by simpa using hL2j0) (by rw [hset]; simp) (List.range ops.size) (List.mem_range.mpr hj0n)
            have hc := inv2.cnt
            omega
          · have hnew := envM_add (ops := ops) (V := V) (A := fun k => (L k || decide (k = j))) (B := fun k => (listed.setIfInBounds j true).getD k false) (j := j0) (n := ops.size) hj0n hL2j0 hset (fun k hk hkn hLk t ht' hkd => by
              rw [hdst0] at ht'; cases ht'
              obtain ⟨q, hq'⟩ : ∃ o, ops[k]? = some o := ⟨ops[k], Array.getElem?_eq_getElem hkn⟩
              have hbk : ((Region.before ops).getD k 0).testBit j0 = false := by
                rcases hb2 : ((Region.before ops).getD k 0).testBit j0 with _ | _
                · rfl
                · have := pred_listed (L := fun k => (L k || decide (k = j))) inv2.down k q hq' (fun e he hb3 => inv2.down k q e hq' hLk he hb3) j0 hb2
                  rw [hL2j0] at this; cases this
              have := (hok.alone k q _ hq' (by omega) hbk hdst0).2
              apply this
              simpa [dstOf, hq'] using hkd) (E 0)
            rw [hnew, hdst0]
            refine (inv2.env.mono hle).putD ?_ (some d0)
            rw [hV, hHm]
            exact hv _ _ (Rho.add_same _ _ _)
          · rw [put_defers]; exact inv2.defers
          · intro k q hq' hon hb2
            show (listed.setIfInBounds j true).getD k false = true ↔ _
            rw [hset]
            have hi := inv2.mov k q hq' hon hb2
            rcases Nat.lt_trichotomy k j0 with h2 | h2 | h2
            · rw [hall k q h2 hq' hb2]
              simp
              omega
            · subst h2; simp
            · have h3 : (L k || decide (k = j)) = false := by
                rcases hb3 : (L k || decide (k = j)) with _ | _
                · rfl
                · have := hi.mp hb3; omega
              rw [h3]
              simp
              omega
          · rw [hHn, hHm]
            exact hmv
/-- A region in which one slice floats. -/
theorem reg_float (hmix : P.follows .mixedOrders = true) {ops : Array Oper} {j0 : Nat} (hok : floatOk P ops j0 = true) {o0 : Oper} (h0 : ops[j0]? = some o0) {T : TypeId} {p d0 : Tmp} (hop : o0.op = .buildSlice T 1 #[(0, .tmp p)]) (hd0 : o0.dst = some d0) : RegSound P ops := by
  intro cf hcf st st' h id ρ Q a w he hd ha hq
  obtain ⟨E, HH, V, ht, he0, hh0, hen, hhn, _, _⟩ := trace_of ops.toList 0 [] [] st rfl h
  rw [if_pos (Nat.zero_le _)] at hen hhn
  refine wp_region_any hmix ?_
  have e1 : (fun k => (Array.replicate ops.size false).getD k false) = fun _ => false := funext fun k => replicate_false _ _
  refine (draw_float (ρ := ρ) hcf (floatOk_spec hok) h0 hop hd0 ht (w := w) (fun ρ' a' w' h1 h2 h3 => hq ρ' a' w' (hen ▸ h1) h2 (hh0 ▸ hhn ▸ h3)) ops.size).1 _ a ρ _ 0 (by simp) ?_
  rw [e1]
  refine ⟨fun k _ => rfl, fun k o e _ h => (by cases h), ?_, ?_, hd, Nat.zero_le _, fun k o _ _ _ => ⟨fun h => (by cases h), fun h => (by omega)⟩, ?_⟩
  · exact Nat.le_trans (List.length_filter_le _ _) (by simp)
  · rw [envM_none, he0]; exact he
  · rw [hh0]; exact Moves.drew ha
end
end Go.Det

/- Slices of one's own, kept in boxes. -/
namespace Go.Det
set_option linter.unusedVariables false
set_option linter.unusedSimpArgs false
/-- A slice of one's own, and the box that it leads to. -/
inductive Own1 (z : Nat) (R : List (List DV)) : DV → List (Nat × DObj) → Prop
  | nil {ex : Bool} : R = [] → Own1 z R (.sl none 0 0 ex) []
  | at {b c : Nat} {ex : Bool} {rs : List (List DV)} : c = rs.length → R.length ≤ c → rs.take R.length = R → Own1 z R (.sl (some (b, 0, z)) R.length c ex) [(b, .rows false z rs)]
/-- A list of boxes with a piece in it that may be another one. -/
inductive Ctx (bx : List (Nat × DObj)) : List (Nat × DObj) → (List (Nat × DObj) → List (Nat × DObj)) → Prop
  | one : Ctx bx bx (fun x => x)
  | here {post} : Ctx bx (bx ++ post) (fun x => x ++ post)
  | cons {a l G} (h : Ctx bx l G) : Ctx bx (a :: l) (fun x => a :: G x)
  | app {pre l G} (h : Ctx bx l G) : Ctx bx (pre ++ l) (fun x => pre ++ G x)
theorem Ctx.perm {bx bs : List (Nat × DObj)} {F : List (Nat × DObj) → List (Nat × DObj)} (h : Ctx bx bs F) : bs = F bx ∧ ∃ post, ∀ x, (F x).Perm (x ++ post) := by
  induction h with
  | one => exact ⟨rfl, [], fun x => by simp⟩
  | here => exact ⟨rfl, _, fun x => .refl _⟩
  | @cons a l G _ ih =>
    obtain ⟨h1, post, h2⟩ := ih
    exact ⟨by rw [h1], a :: post, fun x => ((h2 x).cons a).trans List.perm_middle.symm⟩
  | @app pre l G _ ih =>
    obtain ⟨h1, post, h2⟩ := ih
    refine ⟨by rw [h1], pre ++ post, fun x => ?_⟩
    have h3 := (h2 x).append_left pre
    refine h3.trans ?_
    rw [← List.append_assoc, ← List.append_assoc]
    exact List.perm_append_comm.append_right _
section
variable {A H H' : DH} {bs bs' rest bx : List (Nat × DObj)} {fs : List (DH → Prop)} {z : Nat} {R : List (List DV)} {s : DV}
theorem Bx.perm (h : Bx A H bs fs) (p : bs.Perm bs') : Bx A H bs' fs := h.fewer (fun b hb => p.mem_iff.mpr hb) ((p.map _).nodup_iff.mp h.nd)
theorem Bx.kill {b : Nat} {o : DObj} (h : Bx A H ((b, o) :: rest) fs) : Bx A (H.set b none) rest fs := by
  have hb := h.obj _ List.mem_cons_self
  have hnd := h.nd
  simp only [List.map_cons, List.nodup_cons, List.mem_map, not_exists, not_and] at hnd
  refine ⟨h.ab.set hb.1 _, fun x hx => ?_, hnd.2, fun f hf => ?_⟩
  · obtain ⟨h3, h4, h5⟩ := h.obj x (List.mem_cons_of_mem _ hx)
    exact ⟨h3, h4, obj_past (fun e => hnd.1 x hx e) h5⟩
  · obtain ⟨S, h1, h2, h3, h4⟩ := (h.fact f hf).ex
    have hn := h4 _ List.mem_cons_self
    exact ⟨S, h1, h1 H _ (Nat.le_refl _) (fun l hl => obj_past (fun e => hn (e ▸ hl)) rfl) h2, h3, fun x hx => h4 x (List.mem_cons_of_mem _ hx)⟩
theorem setRows_take {rs R new : List (List DV)} (h : rs.take R.length = R) (hl : R.length + new.length ≤ rs.length) : (setRows rs R.length new).take (R ++ new).length = R ++ new ∧ (setRows rs R.length new).length = rs.length := by
  unfold setRows
  rw [h]
  refine ⟨?_, by simp; omega⟩
  rw [List.length_append, ← List.append_assoc, ← List.length_append]
  exact List.take_left
variable {P : Program} {X : Ext} {st e : TypeId} {by_ : Nat} {z0 : DV} {o : Oper} {env : List DV} {K : DV → DH → Prop}
theorem own_append (E : ElemT P st e z by_ z0) {new : List (List DV)} {d : DV} {xt : Option TypeDesc} (hown : Own1 z R s bx) (hB : Bx A H (bx ++ rest) fs) (hnew : appendedD P e H xt d = some new) (hne : new ≠ []) (hall : new.all (fun r => r.length == z && r.all DV.one) = true) (hlen : R.length + new.length ≤ mostD) :
    ∃ s' bx' H', appendD P st xt H s d = some (s', H') ∧ Own1 z (R ++ new) s' bx' ∧ Bx A H' (bx' ++ rest) fs := by
  obtain ⟨m, rfl⟩ : ∃ m, z = m + 1 := ⟨z - 1, by have := E.pos; omega⟩
  have hc : by_ ≤ 4096 ∧ z0.cells.length = m + 1 ∧ (new.all fun r => r.length == m + 1 && r.all DV.one) = true := ⟨E.le, E.len, hall⟩
  unfold appendD
  simp only [E.u, E.s, E.b, E.zr, hnew]
  rw [if_pos hc]
  cases hown with
  | nil h =>
    subst h
    simp only
    rw [if_neg hne, if_pos (by simpa using hlen)]
    exact ⟨_, _, _, rfl, .at (rs := new) rfl (by simp) (by simp), hB.box _⟩
  | @«at» b c ex rs h1 h2 h3 =>
    subst h1
    have ho : H.obj b = some (.rows false (m + 1) rs) := hB.get At.here
    simp only
    rw [if_neg (by simp), if_neg hne]
    simp only [ho]
    rw [if_neg (by simp; omega)]
    split
    · rename_i hle
      rw [if_pos (by simp; omega)]
      obtain ⟨k1, k2⟩ := setRows_take (new := new) h3 (by omega)
      refine ⟨_, [(b, .rows false (m + 1) (setRows rs (0 + R.length) new))], _, rfl, ?_, hB.put (bs' := (b, .rows false (m + 1) (setRows rs (0 + R.length) new)) :: rest) Upd.here⟩
      rw [Nat.zero_add, ← List.length_append]
      exact .at k2.symm (by rw [List.length_append]; omega) k1
    · have e1 : (rs.drop 0).take R.length ++ new = R ++ new := by rw [List.drop_zero, h3]
      rw [e1]
      split
      · refine ⟨_, [(H.next, .rows false (m + 1) (R ++ new))], _, rfl, ?_, (hB.box (.rows false (m + 1) (R ++ new))).sub (bs' := (H.next, .rows false (m + 1) (R ++ new)) :: rest) ?_⟩
        · rw [← List.length_append]; exact .at rfl (Nat.le_refl _) (List.take_length)
        · exact (List.sublist_cons_self _ _).cons_cons _
      · rw [if_pos trivial]
        refine ⟨_, [(H.next, .rows false (m + 1) (R ++ new))], _, rfl, ?_, (hB.kill).box (.rows false (m + 1) (R ++ new))⟩
        rw [← List.length_append]; exact .at rfl (Nat.le_refl _) (List.take_length)
theorem op_append_own {x y : Operand} {xt : TypeId} {F : List (Nat × DObj) → List (Nat × DObj)} {new : List (List DV)} {d : DV} (ho : o.op = .call ⟨.builtin .append, #[x, y], #[st, xt]⟩) (hx : evalO env x = some s) (hy : evalO env y = some d)
    (E : ElemT P st e z by_ z0) (hown : Own1 z R s bx) (hB : Bx A H bs fs) (hc : Ctx bx bs F) (hnew : appendedD P e H (P.underlying xt) d = some new) (hne : new ≠ []) (hall : new.all (fun r => r.length == z && r.all DV.one) = true) (hlen : R.length + new.length ≤ mostD)
    (hk : ∀ s' bx' H', Own1 z (R ++ new) s' bx' → Bx A H' (F bx') fs → K s' H') : OpWp P X o env H K := by
  obtain ⟨h1, post, h2⟩ := hc.perm
  subst h1
  obtain ⟨s', bx', H', h3, h4, h5⟩ := own_append E hown (hB.perm (h2 bx)) hnew hne hall hlen
  refine op_at (v := s') (H' := H') ?_ (hk s' bx' H' h4 (h5.perm (h2 bx').symm))
  simp only [opD, ho, mover, moveD, hx, hy, if_true]
  exact h3
/-- A slice of one, built. -/
theorem bx_build1 {T : TypeId} {x : Operand} {v : DV} {cs : List DV} (E : ElemT P T e z by_ z0) (ho : o.op = .buildSlice T 1 #[(0, x)]) (hx : evalO env x = some v) (hc : v.cells = cs) (hl : cs.length = z) (h1 : cs.all DV.one = true) (hz : z ≤ 16777216) (hB : Bx A H bs fs)
    (hk : ∀ b H', Bx A H' ((b, .rows false z [cs]) :: bs) fs → K (.sl (some (b, 0, z)) 1 1 true) H') : OpWp P X o env H K := by
  obtain ⟨m, rfl⟩ : ∃ m, z = m + 1 := ⟨z - 1, by have := E.pos; omega⟩
  subst hc
  refine op_at (v := .sl (some (H.next, 0, m + 1)) 1 1 true) (H' := H.new (.rows false (m + 1) [v.cells])) ?_ (hk _ _ (hB.box _))
  simp only [opD, ho, mover, moveD, if_true, evParts, hx, buildSliceD, E.u, E.zr, E.s]
  rw [if_pos ⟨E.len, E.one, by omega⟩]
  simp only [buildRows, zerosD, List.length_replicate]
  rw [if_pos ⟨by omega, hl, h1⟩]
  rfl
theorem appended_box {xt : Option TypeDesc} {t : TypeId} {b : Nat} {row : List DV} {ex : Bool} (hu : xt = some (.slice t)) (hB : Bx A H bs fs) (hm : At b (.rows false z [row]) bs) : appendedD P e H xt (.sl (some (b, 0, z)) 1 1 ex) = some [row] := by
  subst hu
  simp only [appendedD, rowsOf, hB.get hm]
  rfl
/-- What a slice of one's own holds, wherever its box stands. -/
theorem Own1.sl {F : List (Nat × DObj) → List (Nat × DObj)} (h : Own1 z R s bx) (hB : Bx A H bs fs) (hc : Ctx bx bs F) : ∃ p c ex, s = .sl p R.length c ex ∧ Sl H z R p := by
  obtain ⟨h1, post, h2⟩ := hc.perm
  subst h1
  have hB' := hB.perm (h2 bx)
  cases h with
  | nil h => subst h; exact ⟨none, 0, _, rfl, .nil rfl⟩
  | @«at» b c ex rs h3 h4 h5 =>
    refine ⟨_, _, _, rfl, .at (hB'.obj _ List.mem_cons_self).2.1 (hB'.get At.here) (by omega) ?_⟩
    rw [List.drop_zero]
    exact h5
theorem Own1.cut (h : Own1 z R s bx) : ∃ s', (∀ p n c ex, s = .sl p n c ex → s' = .sl p 0 c ex) ∧ Own1 z [] s' bx := by
  cases h with
  | nil h => subst h; exact ⟨_, fun p n c ex e => by cases e; rfl, .nil rfl⟩
  | @«at» b c ex rs h3 h4 h5 => exact ⟨.sl (some (b, 0, z)) 0 c ex, fun p n c' ex' e => by cases e; rfl, .at (R := []) h3 (Nat.zero_le _) rfl⟩
end
end Go.Det
