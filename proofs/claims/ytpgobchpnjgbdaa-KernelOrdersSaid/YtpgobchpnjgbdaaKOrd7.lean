/- What a call is handed: bools, whole numbers, strings, slices, structs, arrays, at whatever depth: as values and read-only rows of the deterministic reading. -/
import Derived.Carry
import Derived.OpenShut
import Derived.ChangeOld
import Derived.DataReads
import Derived.SizedLaws
import Derived.ProofKit
import Derived.Test.YtpgobchpnjgbdaaKOrd6
namespace Go.Det
set_option linter.unusedVariables false
set_option linter.unusedSimpArgs false
section
variable {P : Program} {A : Type} {enc : TypeId × Value → A} {W : World}
/-- A row of cells is one of a type. -/
inductive Typed (P : Program) (H : DH) : TypeId → List DV → Prop
  | bool {t : TypeId} {b : Bool} : P.underlying t = some .bool → Typed P H t [.bool b]
  | int {t : TypeId} {k : IntKind} {n : Int} : P.underlying t = some (.int k) → (Lit.int k n).wf = true → Typed P H t [.int k n]
  | str {t : TypeId} {s : List UInt8} : P.underlying t = some .string → s.length ≤ maxLen → Typed P H t [.str s]
  | nil {t e : TypeId} : P.underlying t = some (.slice e) → Typed P H t [.sl none 0 0 true]
  | slice {t e : TypeId} {l n : Nat} {rs : List (List DV)} : P.underlying t = some (.slice e) → H.obj l = some (.rows true (P.cellsOf e) rs) → n ≤ rs.length → rs.length ≤ maxLen →
      (∀ (i : Nat) (r : List DV), rs[i]? = some r → Typed P H e r) → Typed P H t [.sl (some (l, 0, P.cellsOf e)) n rs.length true]
  | struct {t : TypeId} {fs : Array Field} {cs : List DV} : P.underlying t = some (.struct fs) → cs.length = P.cellsOf t → (∀ f ∈ fs.toList, Typed P H f.type ((cs.drop f.offset).take (P.cellsOf f.type))) → Typed P H t cs
  | array {t e : TypeId} {m : Nat} {cs : List DV} : P.underlying t = some (.array m e) → cs.length = m * P.cellsOf e → (∀ i, i < m → Typed P H e ((cs.drop (i * P.cellsOf e)).take (P.cellsOf e))) → Typed P H t cs
theorem Typed.mono {H H' : DH} (h : ∀ l o, H.obj l = some o → H'.obj l = some o) {t : TypeId} {cs : List DV} (k : Typed P H t cs) : Typed P H' t cs := by
  induction k with
  | bool a => exact .bool a
  | int a b => exact .int a b
  | str a b => exact .str a b
  | nil a => exact .nil a
  | slice a b c d _ ih => exact .slice a (h _ _ b) c d ih
  | struct a b _ ih => exact .struct a b ih
  | array a b _ ih => exact .array a b ih
def tiles (P : Program) : List Field → Nat → Nat → Bool
  | [], off, size => off == size
  | f :: r, off, size => f.offset == off && tiles P r (off + P.cellsOf f.type) size
/-- The types that are read so. -/
def okTy (P : Program) : Nat → TypeId → Bool
  | 0, _ => false
  | n + 1, t => match P.underlying t with
    | some .bool | some (.int _) | some .string => true
    | some (.slice e) => P.cellsOf e != 0 && okTy P n e
    | some (.struct fs) => tiles P fs.toList 0 (P.cellsOf t) && fs.toList.all fun f => okTy P n f.type
    | some (.array m e) => P.cellsOf t == m * P.cellsOf e && okTy P n e
    | _ => false
theorem tiles_le : ∀ (l : List Field) (off size : Nat), tiles P l off size = true → off ≤ size
  | [], off, size, h => by simp [tiles] at h; omega
  | f :: r, off, size, h => by
    simp only [tiles, Bool.and_eq_true] at h
    have := tiles_le r _ _ h.2
    omega
theorem tiles_off : ∀ (l : List Field) (off size : Nat), tiles P l off size = true → ∀ f ∈ l, off ≤ f.offset
  | [], off, size, h, f, hf => by cases hf
  | g :: r, off, size, h, f, hf => by
    simp only [tiles, Bool.and_eq_true, beq_iff_eq] at h
    rcases List.mem_cons.mp hf with rfl | hf
    · omega
    · have := tiles_off r _ _ h.2 f hf
      omega
/-- All rows are read-only. -/
def RO (H : DH) : Prop := ∀ l o, H.obj l = some o → o.ro = true
structure Grows (W : World) (ρ : Rho) (H : DH) (ρ' : Rho) (H' : DH) : Prop where
  le : ρ.le ρ'
  obj : ∀ l o, H.obj l = some o → H'.obj l = some o
  agree : Agree ρ' H' W
  ro : RO H'
theorem Grows.refl {ρ : Rho} {H : DH} (h : Agree ρ H W) (hr : RO H) : Grows W ρ H ρ H := ⟨Rho.le_refl _, fun _ _ h => h, h, hr⟩
theorem Grows.trans {ρ ρ1 ρ2 : Rho} {H H1 H2 : DH} (h : Grows W ρ H ρ1 H1) (k : Grows W ρ1 H1 ρ2 H2) : Grows W ρ H ρ2 H2 :=
  ⟨Rho.le_trans h.le k.le, fun l o e => k.obj l o (h.obj l o e), k.agree, k.ro⟩
/-- Where there is a slice there is a block. -/
def Room (W : World) (cs : List Value) : Prop := ∀ a n c, Value.slice (some a) n c ∈ cs → 0 < W.heap.size
theorem Room.of {cs cs' : List Value} (h : Room W cs) (hs : ∀ v ∈ cs', v ∈ cs) : Room W cs' := fun a n c hm => h a n c (hs _ hm)
/-- What one reading gives. -/
def InOk (enc : TypeId × Value → A) (P : Program) (W : World) (fuel : Nat) (n : Nat) : Prop :=
  ∀ t cs x, DataW.trod enc P W 0 (fun _ => true) true fuel t cs = some x → okTy P n t = true → Room W cs → ∀ ρ H, Agree ρ H W → RO H →
    ∃ ρ' H' ds, Grows W ρ H ρ' H' ∧ VRs ρ' ds cs ∧ ds.all DV.one = true ∧ Typed P H' t ds
theorem fields_in {fuel n : Nat} (ih : InOk enc P W fuel n) {cs : List Value} {size : Nat} (hl : cs.length = size) (hroom : Room W cs) : ∀ (l : List Field) (off : Nat), tiles P l off size = true → (∀ f ∈ l, ∃ x, DataW.trod enc P W 0 (fun _ => true) true fuel f.type ((cs.drop f.offset).take (P.cellsOf f.type)) = some x) →
    (l.all fun f => okTy P n f.type) = true → ∀ ρ H, Agree ρ H W → RO H →
    ∃ ρ' H' ds, Grows W ρ H ρ' H' ∧ VRs ρ' ds (cs.drop off) ∧ ds.all DV.one = true ∧ ∀ f ∈ l, Typed P H' f.type ((ds.drop (f.offset - off)).take (P.cellsOf f.type))
  | [], off, ht, _, _, ρ, H, ha, hr => by
    simp only [tiles, beq_iff_eq] at ht
    refine ⟨ρ, H, [], .refl ha hr, ?_, rfl, by simp⟩
    rw [List.drop_eq_nil_of_le (by omega)]
    exact .nil
  | f :: l, off, ht, hm, hok, ρ, H, ha, hr => by
    simp only [tiles, Bool.and_eq_true, beq_iff_eq] at ht
    simp only [List.all_cons, Bool.and_eq_true] at hok
    obtain ⟨rfl, ht2⟩ := ht
    obtain ⟨x, hx⟩ := hm f (by simp)
    obtain ⟨ρ1, H1, d1, g1, v1, o1, t1⟩ := ih _ _ _ hx hok.1 (hroom.of fun v hv => List.mem_of_mem_drop (List.mem_of_mem_take hv)) ρ H ha hr
    obtain ⟨ρ2, H2, d2, g2, v2, o2, t2⟩ := fields_in ih hl hroom l (f.offset + P.cellsOf f.type) ht2 (fun g hg => hm g (by simp [hg])) hok.2 ρ1 H1 g1.agree g1.ro
    have hle := tiles_le _ _ _ ht2
    have hlen : d1.length = P.cellsOf f.type := by
      have := VRs.length v1
      rw [List.length_take, List.length_drop] at this
      omega
    refine ⟨ρ2, H2, d1 ++ d2, g1.trans g2, ?_, by simp [o1, o2], fun g hg => ?_⟩
    · have : cs.drop f.offset = (cs.drop f.offset).take (P.cellsOf f.type) ++ cs.drop (f.offset + P.cellsOf f.type) := by
        rw [← List.drop_drop, List.take_append_drop]
      rw [this]
      exact (VRs.mono g2.le _ _ v1).append v2
    · rcases List.mem_cons.mp hg with rfl | hg
      · rw [Nat.sub_self, List.drop_zero, List.take_left' hlen]
        exact t1.mono g2.obj
      · have ho := tiles_off _ _ _ ht2 g hg
        have e : g.offset - f.offset = d1.length + (g.offset - (f.offset + P.cellsOf f.type)) := by omega
        rw [e, List.drop_append, List.drop_eq_nil_of_le (by omega), List.nil_append, Nat.add_sub_cancel_left]
        exact t2 g hg
/-- Parts of one size, one behind the other: an array's. -/
theorem parts_in {fuel n : Nat} (ih : InOk enc P W fuel n) {e : TypeId} (hok : okTy P n e = true) {cs : List Value} (hroom : Room W cs) {m : Nat} (hl : cs.length = m * P.cellsOf e) (hall : ∀ i, i < m → ∃ x, DataW.trod enc P W 0 (fun _ => true) true fuel e ((cs.drop (i * P.cellsOf e)).take (P.cellsOf e)) = some x)
    {ρ : Rho} {H : DH} (ha : Agree ρ H W) (hr : RO H) : ∀ k, k ≤ m → ∃ ρ' H' ds, Grows W ρ H ρ' H' ∧ VRs ρ' ds (cs.take (k * P.cellsOf e)) ∧ ds.all DV.one = true ∧ ∀ i, i < k → Typed P H' e ((ds.drop (i * P.cellsOf e)).take (P.cellsOf e)) := by
  intro k
  induction k with
  | zero => intro _; exact ⟨ρ, H, [], .refl ha hr, by simpa using VRs.nil, rfl, fun i hi => by omega⟩
  | succ k ihk =>
    intro hk
    obtain ⟨ρ1, H1, d1, g1, v1, o1, t1⟩ := ihk (by omega)
    obtain ⟨x, hx⟩ := hall k (by omega)
    obtain ⟨ρ2, H2, d2, g2, v2, o2, t2⟩ := ih _ _ _ hx hok (hroom.of fun v hv => List.mem_of_mem_drop (List.mem_of_mem_take hv)) ρ1 H1 g1.agree g1.ro
    have hmul : k * P.cellsOf e + P.cellsOf e ≤ m * P.cellsOf e := by
      have : (k + 1) * P.cellsOf e ≤ m * P.cellsOf e := Nat.mul_le_mul_right _ hk
      rwa [Nat.succ_mul] at this
    have hd1 : d1.length = k * P.cellsOf e := by
      have := VRs.length v1
      rw [List.length_take] at this
      omega
    have hd2 : d2.length = P.cellsOf e := by
      have := VRs.length v2
      rw [List.length_take, List.length_drop] at this
      omega
    refine ⟨ρ2, H2, d1 ++ d2, g1.trans g2, ?_, by simp [o1, o2], fun i hi => ?_⟩
    · rw [Nat.succ_mul, List.take_add]
      exact (VRs.mono g2.le _ _ v1).append v2
    · by_cases e1 : i = k
      · subst e1
        rw [List.drop_left' hd1, List.take_of_length_le (by omega)]
        exact t2
      · have hik : i * P.cellsOf e + P.cellsOf e ≤ k * P.cellsOf e := by
          have : (i + 1) * P.cellsOf e ≤ k * P.cellsOf e := Nat.mul_le_mul_right _ (by omega)
          rwa [Nat.succ_mul] at this
        rw [List.drop_append_of_le_length (by omega), List.take_append_of_le_length (by rw [List.length_drop]; omega)]
        exact (t1 i (by omega)).mono g2.obj
theorem cell_spot {a : Addr} {v : Value} (h : W.cell? a = some v) : a.spot = none ∧ cellAt W.heap[a.block]? a.off = some v := by
  unfold World.cell? at h
  split at h
  · rename_i c t f hb
    split at h
    · cases h
    · rename_i hs
      refine ⟨by simpa using hs, ?_⟩
      rw [hb]
      exact h
  · cases h
theorem add_none (b o n : Nat) : (Addr.mk b o none).add n = ⟨b, o + n, none⟩ := by
  unfold Addr.add
  split
  · rename_i h; subst h; rfl
  · rfl
theorem rows_in {fuel n : Nat} (ih : InOk enc P W fuel n) {e : TypeId} (hok : okTy P n e = true) (hpos : 0 < W.heap.size) {a : Addr} {m : Nat}
    (hall : ∀ i, i < m → ∃ x, ((W.cells? 0 (a.add (i * P.cellsOf e)) (P.cellsOf e)).bind (DataW.trod enc P W 0 (fun _ => true) true fuel e)) = some x)
    {ρ : Rho} {H : DH} (ha : Agree ρ H W) (hr : RO H) : ∀ k, k ≤ m → ∃ (ρ' : Rho) (H' : DH) (rs : List (List DV)), Grows W ρ H ρ' H' ∧ rs.length = k ∧ ∀ (i : Nat) (r : List DV), rs[i]? = some r → r.all DV.one = true ∧ Typed P H' e r ∧ ∃ cs, W.cells? 0 (a.add (i * P.cellsOf e)) (P.cellsOf e) = some cs ∧ VRs ρ' r cs := by
  intro k
  induction k with
  | zero => intro _; exact ⟨ρ, H, [], .refl ha hr, rfl, fun i r h => by simp at h⟩
  | succ k ihk =>
    intro hk
    obtain ⟨ρ1, H1, rs, g1, l1, h1⟩ := ihk (by omega)
    obtain ⟨x, hx⟩ := hall k (by omega)
    cases hc : W.cells? 0 (a.add (k * P.cellsOf e)) (P.cellsOf e) with
    | none => rw [hc] at hx; simp at hx
    | some cs =>
      rw [hc] at hx
      simp only [Option.bind_some] at hx
      obtain ⟨ρ2, H2, d2, g2, v2, o2, t2⟩ := ih _ _ _ hx hok (fun _ _ _ _ => hpos) ρ1 H1 g1.agree g1.ro
      refine ⟨ρ2, H2, rs ++ [d2], g1.trans g2, by simp [l1], fun i r hi => ?_⟩
      rcases Nat.lt_or_ge i rs.length with hlt | hge
      · rw [List.getElem?_append_left hlt] at hi
        obtain ⟨a1, a2, cs', a3, a4⟩ := h1 i r hi
        exact ⟨a1, a2.mono g2.obj, cs', a3, VRs.mono g2.le _ _ a4⟩
      · rw [List.getElem?_append_right hge] at hi
        have hi0 : i - rs.length = 0 := by
          rcases Nat.eq_zero_or_pos (i - rs.length) with h | h
          · exact h
          · rw [List.getElem?_eq_none (by simp; omega)] at hi; cases hi
        rw [hi0] at hi
        simp at hi
        subst hi
        have : i = k := by omega
        subst this
        exact ⟨o2, t2, cs, hc, v2⟩
theorem Grows.row {ρ : Rho} {H : DH} (ha : Agree ρ H W) (hr : RO H) {pl : Pl} {rs : List (List DV)} (hlies : pl.block < W.heap.size) (hrs : rs.length ≤ pl.tot)
    (hrow : ∀ (i : Nat) (r : List DV), rs[i]? = some r → r.length = pl.sz ∧ ∀ (j : Nat) (d : DV), r[j]? = some d → CR ρ W.heap[pl.block]? (pl.off + i * pl.sz + j) d) :
    Grows W ρ H (fun m => if m = H.next then some pl else ρ m) (H.new (.rows true pl.sz rs)) := by
  have hle : ρ.le (fun m => if m = H.next then some pl else ρ m) := by
    intro l p h
    have := ha.low l p h
    show (if l = H.next then some pl else ρ l) = some p
    rw [if_neg (by omega)]
    exact h
  have hro : RO (H.new (.rows true pl.sz rs)) := by
    intro l o h
    simp only [DH.new] at h
    split at h
    · cases h; rfl
    · exact hr l o h
  have hobj : ∀ l o, H.obj l = some o → (H.new (.rows true pl.sz rs)).obj l = some o := by
    intro l o h
    obtain ⟨p, hp, _⟩ := ha.obj l o h
    have := ha.low l p hp
    simp only [DH.new]
    rw [if_neg (by omega)]
    exact h
  refine ⟨hle, hobj, ⟨?_, ?_, ?_, ?_⟩, hro⟩
  · intro l p h
    have h : (if l = H.next then some pl else ρ l) = some p := h
    simp only [DH.new]
    split at h
    · omega
    · have := ha.low l p h; omega
  · intro l p h
    have h : (if l = H.next then some pl else ρ l) = some p := h
    split at h
    · cases h; exact hlies
    · exact ha.lies l p h
  · intro l o h
    simp only [DH.new] at h
    split at h
    · rename_i hl
      cases h
      refine ⟨pl, by simp [hl], ?_⟩
      refine ⟨rfl, hrs, fun i r hi => ⟨(hrow i r hi).1, fun j d hd => ((hrow i r hi).2 j d hd).mono hle⟩, fun h => by cases h⟩
    · rename_i hl
      obtain ⟨p, hp, ho⟩ := ha.obj l o h
      exact ⟨p, hle l p hp, ho.mono hle⟩
  · intro l l' o o' p p' _ h _ hf
    rw [hro l o h] at hf
    cases hf
theorem trod_in : ∀ fuel n, InOk enc P W fuel n := by
  intro fuel
  induction fuel with
  | zero => intro n t cs x h; simp [DataW.trod] at h
  | succ fuel ih =>
    intro n t cs x h hok hroom ρ H ha hr
    cases n with
    | zero => simp [okTy] at hok
    | succ n =>
      cases hu : P.underlying t with
      | none => simp [okTy, hu] at hok
      | some d =>
        cases d with
        | bool =>
          obtain ⟨b, rfl, rfl⟩ := DataW.trod_bool hu h
          exact ⟨ρ, H, [.bool b], .refl ha hr, VRs.one (by simp [VR]), rfl, .bool hu⟩
        | int k =>
          obtain ⟨m, rfl, rfl, hw⟩ := DataW.trod_int hu h
          exact ⟨ρ, H, [.int k m], .refl ha hr, VRs.one (by simp [VR]), rfl, .int hu hw⟩
        | string =>
          obtain ⟨m, rfl, rfl, hw⟩ := DataW.trod_string hu h
          exact ⟨ρ, H, [.str m.data.toList], .refl ha hr, VRs.one (by simp [VR]), rfl, .str hu (by simpa using hw)⟩
        | slice e =>
          simp only [okTy, hu, Bool.and_eq_true, bne_iff_ne, ne_eq] at hok
          rcases DataW.trod_slice hu h with ⟨rfl, rfl⟩ | ⟨a, len, cap, elems, rest, m, hm, rfl, rfl, _, hl, hc, he, hel, hre, _⟩
          · exact ⟨ρ, H, [.sl none 0 0 true], .refl ha hr, VRs.one (by simp [VR]), rfl, .nil hu⟩
          · cases hm
            obtain ⟨hr1, hre⟩ := hre rfl
            have hpos := hroom a len cap (by simp)
            have hall : ∀ i, i < cap → ∃ x, ((W.cells? 0 (a.add (i * P.cellsOf e)) (P.cellsOf e)).bind (DataW.trod enc P W 0 (fun _ => true) true fuel e)) = some x := by
              intro i hi
              rcases Nat.lt_or_ge i len with h | h
              · exact ⟨elems[i], by rw [hel i h, List.getElem?_eq_getElem (by omega)]⟩
              · have := hre (i - len) (by omega)
                rw [show len + (i - len) = i by omega] at this
                exact ⟨rest[i - len]'(by omega), by rw [this, List.getElem?_eq_getElem (by omega)]⟩
            obtain ⟨ρ1, H1, rs, g1, l1, h1⟩ := rows_in (ih n) hok.2 hpos hall ha hr cap (Nat.le_refl _)
            have hspot : 0 < cap → a.spot = none := by
              intro hcap
              obtain ⟨r, hr0⟩ : ∃ r, rs[0]? = some r := ⟨rs[0]'(by omega), List.getElem?_eq_getElem (by omega)⟩
              obtain ⟨_, _, cs, hcs, _⟩ := h1 0 r hr0
              obtain ⟨_, h3, h4⟩ := World.cells?_some hcs
              have h5 := h4 0 (by omega)
              rw [List.getElem?_eq_getElem (by omega)] at h5
              simp only [Nat.zero_mul, Addr.add, if_true] at h5
              exact (cell_spot h5).1
            let pl : Pl := ⟨if cap = 0 then 0 else a.block, a.off, P.cellsOf e, cap⟩
            have hlies : pl.block < W.heap.size := by
              show (if cap = 0 then 0 else a.block) < _
              split
              · exact hpos
              · obtain ⟨r, hr0⟩ : ∃ r, rs[0]? = some r := ⟨rs[0]'(by omega), List.getElem?_eq_getElem (by omega)⟩
                obtain ⟨_, _, cs, hcs, _⟩ := h1 0 r hr0
                have := World.cells?_block hcs (by omega)
                simpa [Addr.add] using this
            have g2 := Grows.row (W := W) g1.agree g1.ro (pl := pl) (rs := rs) hlies (by show rs.length ≤ cap; omega) (by
              intro i r hi
              have hi' : i < cap := by
                have := (List.getElem?_eq_some_iff.mp hi).1
                omega
              obtain ⟨o1, t1, cs, hcs, v1⟩ := h1 i r hi
              obtain ⟨_, h3, h4⟩ := World.cells?_some hcs
              have hlen := VRs.length v1
              refine ⟨by show r.length = P.cellsOf e; omega, fun j d hd => ?_⟩
              have hj : j < r.length := (List.getElem?_eq_some_iff.mp hd).1
              obtain ⟨c, hc', hv⟩ := VRs.get j v1 hd
              have h5 := h4 j (by omega)
              rw [hc'] at h5
              have hs := hspot (by omega)
              obtain ⟨b, o, sp⟩ := a
              simp only at hs
              subst hs
              rw [add_none, add_none] at h5
              have h6 := (cell_spot h5).2
              refine ⟨List.all_eq_true.mp o1 d (List.mem_of_getElem? hd), c, ?_, hv⟩
              show cellAt W.heap[(if cap = 0 then 0 else b)]? (o + i * P.cellsOf e + j) = some c
              rw [if_neg (by omega)]
              exact h6)
            refine ⟨_, _, [.sl (some (H1.next, 0, P.cellsOf e)) len rs.length true], g1.trans g2, VRs.one ?_, rfl, ?_⟩
            · simp only [VR]
              refine ⟨pl, a, cap, by simp, rfl, rfl, by omega, by omega, fun _ => by omega, by show 0 + cap ≤ cap; omega, ?_⟩
              rcases Nat.eq_zero_or_pos cap with h | h
              · exact .inl h
              · right
                have hs := hspot h
                obtain ⟨b, o, sp⟩ := a
                simp only at hs
                subst hs
                show Addr.mk b o none = ⟨(if cap = 0 then 0 else b), o + 0 * P.cellsOf e + 0, none⟩
                rw [if_neg (by omega)]
                simp
            · exact .slice hu (by simp [DH.new]; rfl) (by omega) (by omega) fun i r hi => ((h1 i r hi).2.1).mono g2.obj
        | struct fs =>
          simp only [okTy, hu, Bool.and_eq_true] at hok
          obtain ⟨xs, m, hm, _, hlen, hxl, hxs⟩ := DataW.trod_struct hu h
          cases hm
          obtain ⟨ρ1, H1, ds, g1, v1, o1, t1⟩ := fields_in (ih n) hlen hroom fs.toList 0 hok.1 (by
            intro f hf
            obtain ⟨i, hi, he⟩ := List.getElem_of_mem hf
            have := hxs i f (by rw [← Array.getElem?_toList, List.getElem?_eq_getElem hi, he])
            have hi2 : i < xs.length := by simp at hi; omega
            exact ⟨xs[i], by rw [this, List.getElem?_eq_getElem hi2]⟩) hok.2 ρ H ha hr
          rw [List.drop_zero] at v1
          refine ⟨ρ1, H1, ds, g1, v1, o1, .struct hu (by have := VRs.length v1; omega) fun f hf => ?_⟩
          have := t1 f hf
          rwa [Nat.sub_zero] at this
        | array m e =>
          simp only [okTy, hu, Bool.and_eq_true, beq_iff_eq] at hok
          obtain ⟨xs, m', hm, _, hlen, hxl, hxs⟩ := DataW.trod_array hu h
          cases hm
          obtain ⟨ρ1, H1, ds, g1, v1, o1, t1⟩ := parts_in (ih n) hok.2 hroom (by rw [hlen, hok.1]) (by
            intro i hi
            exact ⟨xs[i]'(by omega), by rw [hxs i hi, List.getElem?_eq_getElem (by omega)]⟩) ha hr m (Nat.le_refl _)
          rw [← hok.1, ← hlen, List.take_length] at v1
          exact ⟨ρ1, H1, ds, g1, v1, o1, .array hu (by have := VRs.length v1; omega) t1⟩
        | _ => simp [okTy, hu] at hok
end
end Go.Det

/- A row out of what the deterministic reading comes to. -/
namespace Go.Det
set_option linter.unusedVariables false
set_option linter.unusedSimpArgs false
open Go.ChangeShapes Go.WideShapes Go.RowKit
section
variable {P : Program} {A : Type} {enc : TypeId × Value → A} {W : World}
/-- An argument. -/
def TArg (P : Program) (H : DH) (t : TypeId) (d : DV) : Prop :=
  match P.underlying t with
  | some (.struct _) | some (.array _ _) => ∃ ds, d = .agg ds ∧ Typed P H t ds
  | _ => Typed P H t [d]
def TArgs (P : Program) (H : DH) : List TypeId → List DV → Prop
  | [], [] => True
  | t :: ts, d :: ds => TArg P H t d ∧ TArgs P H ts ds
  | _, _ => False
theorem TArg.mono {H H' : DH} (h : ∀ l o, H.obj l = some o → H'.obj l = some o) {t : TypeId} {d : DV} (k : TArg P H t d) : TArg P H' t d := by
  unfold TArg at *
  cases hu : P.underlying t with
  | none => rw [hu] at k; exact Typed.mono h k
  | some d =>
    rw [hu] at k
    cases d <;> first
      | exact Typed.mono h k
      | (obtain ⟨ds, h1, h2⟩ := k; exact ⟨ds, h1, h2.mono h⟩)
theorem TArgs.mono {H H' : DH} (h : ∀ l o, H.obj l = some o → H'.obj l = some o) : ∀ {ts : List TypeId} {ds : List DV}, TArgs P H ts ds → TArgs P H' ts ds
  | [], [], _ => trivial
  | _ :: _, _ :: _, k => ⟨k.1.mono h, k.2.mono h⟩
  | [], _ :: _, k => k.elim
  | _ :: _, [], k => k.elim
theorem has_room {r : Reach} {b : Nat} {t : TypeId} {a : Addr} {n c : Nat} (h : Cell.okWide P W r b t (.slice (some a) n c)) : 0 < W.heap.size := by
  have h' : Cell.ok P W r b t (.slice (some a) n c) := by
    unfold Cell.okWide at h
    cases hu : P.underlying t with
    | none => rw [hu] at h; exact h
    | some d => rw [hu] at h; cases d <;> exact h
  unfold Cell.ok at h'
  cases hu : P.underlying t with
  | none => rw [hu] at h'; exact h'.elim
  | some d =>
    rw [hu] at h'
    cases d <;> try exact h'.elim
    obtain ⟨_, _, _, _, row, cells, hs, _⟩ := h'
    unfold World.shape? at hs
    split at hs
    · rename_i hb
      have := (Array.getElem?_eq_some_iff.mp hb).1
      omega
    · cases hs
theorem arg_in {b : Nat} {t : TypeId} {v : Value} {d : DataW A} {ps : List MemPlace} (hv : Value.okWide P W .any b t v) (h : DataW.Trod enc P W 0 (fun _ => true) true t v d ps) {n : Nat} (hok : okTy P n t = true) {ρ : Rho} {H : DH} (ha : Agree ρ H W) (hr : RO H) :
    ∃ ρ' H' x, Grows W ρ H ρ' H' ∧ VR ρ' x v ∧ TArg P H' t x := by
  obtain ⟨fuel, hf⟩ := h
  unfold Value.okWide at hv
  split at hv
  · rename_i fs hu
    obtain ⟨cs, rfl, hsz, ts, hts, _, hc⟩ := hv
    obtain ⟨ρ', H', ds, g, v1, o1, t1⟩ := trod_in fuel n t _ _ hf hok (by
      intro a m c hm
      obtain ⟨i, hi, he⟩ := List.getElem_of_mem hm
      have hi' : i < cs.size := by simpa [Value.cells] using hi
      obtain ⟨u, _, hu'⟩ := hc i (.slice (some a) m c) (by rw [Array.getElem?_eq_getElem hi']; congr 1)
      exact has_room hu') ρ H ha hr
    refine ⟨ρ', H', .agg ds, g, ?_, ?_⟩
    · simp only [VR]; exact ⟨o1, cs, rfl, v1⟩
    · unfold TArg; rw [hu]; exact ⟨ds, rfl, t1⟩
  · rename_i fs m hu
    obtain ⟨cs, rfl, hsz, ts, hts, _, hc⟩ := hv
    obtain ⟨ρ', H', ds, g, v1, o1, t1⟩ := trod_in fuel n t _ _ hf hok (by
      intro a m c hm
      obtain ⟨i, hi, he⟩ := List.getElem_of_mem hm
      have hi' : i < cs.size := by simpa [Value.cells] using hi
      obtain ⟨u, _, hu'⟩ := hc i (.slice (some a) m c) (by rw [Array.getElem?_eq_getElem hi']; congr 1)
      exact has_room hu') ρ H ha hr
    refine ⟨ρ', H', .agg ds, g, ?_, ?_⟩
    · simp only [VR]; exact ⟨o1, cs, rfl, v1⟩
    · unfold TArg; rw [hu]; exact ⟨ds, rfl, t1⟩
  · rename_i h1 h2
    have hcell : v.cells.toList = [v] := by
      cases v <;> try rfl
      exfalso
      unfold Cell.okWide Cell.ok at hv
      cases hu : P.underlying t with
      | none => rw [hu] at hv; exact hv
      | some d => rw [hu] at hv; cases d <;> exact hv
    rw [hcell] at hf
    obtain ⟨ρ', H', ds, g, v1, o1, t1⟩ := trod_in fuel n t _ _ hf hok (by
      intro a m c hm
      simp at hm
      rw [← hm] at hv
      exact has_room hv) ρ H ha hr
    have hl := VRs.length v1
    simp at hl
    obtain ⟨x, rfl⟩ := List.length_eq_one_iff.mp hl.symm
    refine ⟨ρ', H', x, g, by simpa [VRs] using v1, ?_⟩
    unfold TArg
    split
    · rename_i fs hu; exact absurd hu (h1 fs)
    · rename_i n m hu; exact absurd hu (h2 n m)
    · exact t1
theorem args_in {b n : Nat} : ∀ (ts : List TypeId) (vs : List Value) (ds : List (DataW A)) (ps : List MemPlace), (∀ (j : Nat) t v, ts[j]? = some t → vs[j]? = some v → Value.okWide P W .any b t v) → DataW.TrodAll enc P W 0 (fun _ => true) true ts vs ds ps → (ts.all fun t => okTy P n t) = true →
    ∀ {ρ : Rho} {H : DH}, Agree ρ H W → RO H → ∃ ρ' H' xs, Grows W ρ H ρ' H' ∧ VRs ρ' xs vs ∧ TArgs P H' ts xs
  | [], vs, ds, ps, hv, h, hok, ρ, H, ha, hr => by
    obtain ⟨rfl, rfl, rfl⟩ := trodAll_nil h
    exact ⟨ρ, H, [], .refl ha hr, .nil, trivial⟩
  | t :: ts, vs, ds, ps, hv, h, hok, ρ, H, ha, hr => by
    obtain ⟨v, vs', d, ds', p, q, rfl, rfl, rfl, h1, h2⟩ := trodAll_cons h
    simp only [List.all_cons, Bool.and_eq_true] at hok
    obtain ⟨ρ1, H1, x, g1, v1, t1⟩ := arg_in (hv 0 t v rfl rfl) h1 hok.1 ha hr
    obtain ⟨ρ2, H2, xs, g2, v2, t2⟩ := args_in ts vs' ds' q (fun j t' v' h3 h4 => hv (j + 1) t' v' (by simpa using h3) (by simpa using h4)) h2 hok.2 g1.agree g1.ro
    exact ⟨ρ2, H2, x :: xs, g1.trans g2, .cons (VR.mono g2.le _ _ v1) v2, t1.mono g2.obj, t2⟩
theorem empty_agree : Agree (fun _ => none) ⟨0, fun _ => none⟩ W where
  low := fun l p h => by cases h
  lies := fun l p h => by cases h
  obj := fun l o h => by cases h
  apart := fun l l' o o' p p' _ h => by cases h
/-- Nothing of what there was ahead of the call has changed. -/
theorem Moves.below {ρ ρ' : Rho} {H H' : DH} {w w' : World} (h : Moves ρ H w ρ' H' w') (hr : RO H) : Below w.heap.size w w' :=
  ⟨h.os, h.tape, h.output, h.size, fun k hk => h.same k hk fun ⟨l, o, _, ho, hf, _⟩ => by rw [hr l o ho] at hf; cases hf⟩
theorem trodAll_below (hl : laidOutB P = true) {W' : World} (hb : Below W.heap.size W W') : ∀ (ts : List TypeId) (vs : List Value) (ds : List (DataW A)) (ps : List MemPlace), (ts.all fun t => P.readableRec t && decide (t < P.types.size)) = true →
    DataW.TrodAll enc P W 0 (fun _ => true) true ts vs ds ps → ∃ ps', DataW.TrodAll enc P W' 0 (fun b => decide (b < W.heap.size)) true ts vs ds ps'
  | [], vs, ds, ps, _, h => by
    obtain ⟨rfl, rfl, rfl⟩ := trodAll_nil h
    exact ⟨[], trodAll_mk0⟩
  | t :: ts, vs, ds, ps, hr, h => by
    obtain ⟨v, vs', d, ds', p, q, rfl, rfl, rfl, h1, h2⟩ := trodAll_cons h
    simp only [List.all_cons, Bool.and_eq_true, decide_eq_true_eq] at hr
    obtain ⟨q', hq'⟩ := trodAll_below hl hb ts vs' ds' q (by simpa using hr.2) h2
    have hlt : ∀ x ∈ p, x.block < W.heap.size := by obtain ⟨m, hm⟩ := h1; exact DataW.trod_lt m _ _ _ hm
    exact ⟨p ++ q', trodAll_cons_mk (Below.trod hl hr.1.1 hr.1.2 h1 hb hlt) hq'⟩
end
end Go.Det

/- Functions told by a table: those whose answer leads to no place; more rounds tell the same. -/
namespace Go.Det
set_option linter.unusedVariables false
set_option linter.unusedSimpArgs false
/-! ### values that lead to no place -/
mutual
def DV.closed : DV → Bool
  | .ptr (some _) | .sl (some _) _ _ _ | .map (some _) => false
  | .func _ a c => DV.closeds a && DV.closeds c
  | .iface _ v => v.closed
  | .agg cs => DV.closeds cs
  | .tuple cs => DV.closeds cs
  | _ => true
def DV.closeds : List DV → Bool
  | [] => true
  | d :: r => d.closed && DV.closeds r
end
mutual
theorem VR.closed {ρ ρ' : Rho} : ∀ (d : DV) (v : Value), d.closed = true → VR ρ d v → VR ρ' d v
  | .bool _, v, _, h => by simpa [VR] using h
  | .int _ _, v, _, h => by simpa [VR] using h
  | .str _, v, _, h => by simpa [VR] using h
  | .ptr none, v, _, h => by simpa [VR] using h
  | .ptr (some _), v, hc, h => by simp [DV.closed] at hc
  | .sl none _ _ _, v, _, h => by simpa [VR] using h
  | .sl (some _) _ _ _, v, hc, h => by simp [DV.closed] at hc
  | .map none, v, _, h => by simpa [VR] using h
  | .map (some _), v, hc, h => by simp [DV.closed] at hc
  | .nilFunc, v, _, h => by simpa [VR] using h
  | .nilIface, v, _, h => by simpa [VR] using h
  | .func fn a c, v, hc, h => by
    simp only [DV.closed, Bool.and_eq_true] at hc
    simp only [VR] at h ⊢
    obtain ⟨x, y, h1, h2, h3⟩ := h
    exact ⟨x, y, h1, VRs.closed a _ hc.1 h2, VRs.closed c _ hc.2 h3⟩
  | .iface t x, v, hc, h => by
    simp only [DV.closed] at hc
    simp only [VR] at h ⊢
    obtain ⟨y, h1, h2⟩ := h
    exact ⟨y, h1, VR.closed x y hc h2⟩
  | .agg cs, v, hc, h => by
    simp only [DV.closed] at hc
    simp only [VR] at h ⊢
    obtain ⟨h0, y, h1, h2⟩ := h
    exact ⟨h0, y, h1, VRs.closed cs _ hc h2⟩
  | .tuple cs, v, hc, h => by
    simp only [DV.closed] at hc
    simp only [VR] at h ⊢
    obtain ⟨y, h1, h2⟩ := h
    exact ⟨y, h1, VRs.closed cs _ hc h2⟩
theorem VRs.closed {ρ ρ' : Rho} : ∀ (ds : List DV) (vs : List Value), DV.closeds ds = true → VRs ρ ds vs → VRs ρ' ds vs
  | [], vs, _, h => by simpa [VRs] using h
  | d :: ds, [], _, h => by simp [VRs] at h
  | d :: ds, v :: vs, hc, h => by
    simp only [DV.closeds, Bool.and_eq_true] at hc
    simp only [VRs] at h ⊢
    obtain ⟨a, b, e, h1, h2⟩ := h
    cases e
    exact ⟨_, _, rfl, VR.closed d _ hc.1 h1, VRs.closed ds _ hc.2 h2⟩
end
/-! ### what was there is told by the places that were there -/
mutual
theorem VR.narrow {ρ ρ' : Rho} (hle : ρ.le ρ') : ∀ (d : DV) (v u : Value), VR ρ d v → VR ρ' d u → VR ρ d u
  | .bool _, v, u, _, h => by simpa [VR] using h
  | .int _ _, v, u, _, h => by simpa [VR] using h
  | .str _, v, u, _, h => by simpa [VR] using h
  | .ptr none, v, u, _, h => by simpa [VR] using h
  | .ptr (some (l, i, o)), v, u, h0, h => by
    simp only [VR] at h0 h ⊢
    obtain ⟨pl, h1, _⟩ := h0
    obtain ⟨pl', h3, h4⟩ := h
    rw [hle _ _ h1] at h3; cases h3
    exact ⟨pl, h1, h4⟩
  | .sl none _ _ _, v, u, _, h => by simpa [VR] using h
  | .sl (some (l, i, z)) _ _ _, v, u, h0, h => by
    simp only [VR] at h0 h ⊢
    obtain ⟨pl, _, _, h1, _⟩ := h0
    obtain ⟨pl', a, c, h3, h4⟩ := h
    rw [hle _ _ h1] at h3; cases h3
    exact ⟨pl, a, c, h1, h4⟩
  | .map none, v, u, _, h => by simpa [VR] using h
  | .map (some l), v, u, h0, h => by
    simp only [VR] at h0 h ⊢
    obtain ⟨pl, h1, _⟩ := h0
    obtain ⟨pl', h3, h4⟩ := h
    rw [hle _ _ h1] at h3; cases h3
    exact ⟨pl, h1, h4⟩
  | .nilFunc, v, u, _, h => by simpa [VR] using h
  | .nilIface, v, u, _, h => by simpa [VR] using h
  | .func fn a c, v, u, h0, h => by
    simp only [VR] at h0 h ⊢
    obtain ⟨x, y, _, h2, h3⟩ := h0
    obtain ⟨x', y', h4, h5, h6⟩ := h
    exact ⟨x', y', h4, VRs.narrow hle a _ _ h2 h5, VRs.narrow hle c _ _ h3 h6⟩
  | .iface t x, v, u, h0, h => by
    simp only [VR] at h0 h ⊢
    obtain ⟨y, _, h2⟩ := h0
    obtain ⟨y', h3, h4⟩ := h
    exact ⟨y', h3, VR.narrow hle x _ _ h2 h4⟩
  | .agg cs, v, u, h0, h => by
    simp only [VR] at h0 h ⊢
    obtain ⟨_, y, _, h2⟩ := h0
    obtain ⟨h9, y', h3, h4⟩ := h
    exact ⟨h9, y', h3, VRs.narrow hle cs _ _ h2 h4⟩
  | .tuple cs, v, u, h0, h => by
    simp only [VR] at h0 h ⊢
    obtain ⟨y, _, h2⟩ := h0
    obtain ⟨y', h3, h4⟩ := h
    exact ⟨y', h3, VRs.narrow hle cs _ _ h2 h4⟩
theorem VRs.narrow {ρ ρ' : Rho} (hle : ρ.le ρ') : ∀ (ds : List DV) (vs us : List Value), VRs ρ ds vs → VRs ρ' ds us → VRs ρ ds us
  | [], vs, us, _, h => by simpa [VRs] using h
  | d :: ds, [], us, h0, h => by simp [VRs] at h0
  | d :: ds, v :: vs, [], h0, h => by simp [VRs] at h
  | d :: ds, v :: vs, u :: us, h0, h => by
    simp only [VRs] at h0 h ⊢
    obtain ⟨a, b, e, h1, h2⟩ := h0
    obtain ⟨a', b', e', h3, h4⟩ := h
    cases e
    cases e'
    exact ⟨_, _, rfl, VR.narrow hle d _ _ h1 h3, VRs.narrow hle ds _ _ h2 h4⟩
end
theorem EntsR.narrow {ρ ρ' : Rho} (hle : ρ.le ρ') {xs : List (DV × DV)} {es : List MapEntry} (h0 : EntsR ρ xs es) : ∀ {es' : List MapEntry}, EntsR ρ' xs es' → EntsR ρ xs es' := by
  induction h0 with
  | nil => intro es' h; cases h; exact .nil
  | cons a _ ih =>
    intro es' h
    cases h with
    | cons b r => exact .cons ⟨VR.narrow hle _ _ _ a.key b.key, VR.narrow hle _ _ _ a.val b.val⟩ (ih r)
theorem ObjR.narrow {ρ ρ' : Rho} (hle : ρ.le ρ') {pl : Pl} {b b' : Option Obj} : ∀ {o : DObj}, ObjR ρ pl b o → ObjR ρ' pl b' o → ObjR ρ pl b' o
  | .rows _ _ _, h0, h => ⟨h.1, h.2.1, fun i r hr => ⟨(h.2.2.1 i r hr).1, fun j d hd => by
      obtain ⟨_, c0, _, v0⟩ := (h0.2.2.1 i r hr).2 j d hd
      obtain ⟨h1, c, hc, hv⟩ := (h.2.2.1 i r hr).2 j d hd
      exact ⟨h1, c, hc, VR.narrow hle _ _ _ v0 hv⟩⟩, h.2.2.2⟩
  | .map _, h0, h => by
    obtain ⟨_, _, _, e0, _⟩ := h0
    obtain ⟨ents, clock, hb, he, hs⟩ := h
    exact ⟨ents, clock, hb, EntsR.narrow hle e0 he, hs⟩
  | .iter _ _, _, h => h
/-- What was made behind is forgotten. -/
theorem Moves.drop {ρ ρ1 : Rho} {H H1 : DH} {w w' : World} (ha : Agree ρ H w) (h : Moves ρ H w ρ1 H1 w') (hk : ∀ l o, H.obj l = some o → H1.obj l = some o) : Moves ρ H w ρ H w' where
  le := Rho.le_refl _
  agree := {
    low := ha.low
    lies := fun l pl e => Nat.lt_of_lt_of_le (ha.lies l pl e) h.size
    obj := fun l o e => by
      obtain ⟨pl, hp, ho⟩ := ha.obj l o e
      obtain ⟨pl', hp', ho'⟩ := h.agree.obj l o (hk l o e)
      rw [h.le _ _ hp] at hp'; cases hp'
      exact ⟨pl, hp, ho.narrow h.le ho'⟩
    apart := ha.apart }
  os := h.os
  tape := h.tape
  output := h.output
  drawn := h.drawn
  size := h.size
  same := h.same
  own := fun b hb => .inl hb
  fresh := fun _ _ h => .inl h
section
variable {P : Program} {X : Ext}
theorem callOk_of_calls {f : FuncId} {fn : Func} {c : Code} (hf : P.funcs[f]? = some fn) (hn : (fn.name == "runtime.NumGoroutine") = false) (hb : fn.body = some c) {args : Array Value} {w : World} {K : Value → World → Prop}
    (h : Calls P f args w fun | .returned v, w' => K v w' | _, _ => False) : CallOk P f args w K := by
  intro o a next Q hq
  rw [Go.MuLone.run_callFunc_enter hf hn hb, Oper.upon_enter]
  refine h.mono fun e w' he => ?_
  cases e with
  | returned v => exact hq v w' he
  | panicked ch => exact he.elim
  | outgrown => exact he.elim
/-- A function whose arguments and whose answer lead to no place: its table may be told from an empty heap. -/
theorem ext_closed (hX : ProgOk P X) {f : FuncId} {fn : Func} {c : Code} (hf : P.funcs[f]? = some fn) (hb : fn.body = some c) (hx : X f = none) {g : List DV → DH → Option (DV × DH)}
    (hg : ∀ args H r H', g args H = some (r, H') → H' = H ∧ DV.closeds args = true ∧ r.closed = true ∧ ∃ k H1, callD P X k f args ⟨0, fun _ => none⟩ = some (r, H1)) : ExtSound P g f := by
  intro args H r H' h ρ w vs ha hv
  obtain ⟨rfl, hca, hcr, k, H1, hk⟩ := hg args H r H' h
  refine callOk_of_calls hf (hX.body f fn c hx hf hb).1 hb ((calls_sound hX hf hb hx hk (empty_agree (W := w)) (VRs.closed (ρ := ρ) _ _ hca hv)).mono fun e w' he => ?_)
  cases e with
  | returned v =>
    obtain ⟨ρ', h1, h2⟩ := he
    have hsame : ∀ b, b < w.heap.size → w'.heap[b]? = w.heap[b]? := fun b hb => h2.same b hb fun ⟨l, o, pl, ho, _⟩ => by cases ho
    refine ⟨ρ, VR.closed _ _ hcr h1, Rho.le_refl _, ⟨ha.low, fun l pl e => Nat.lt_of_lt_of_le (ha.lies l pl e) h2.size, fun l o e => ?_, ha.apart⟩, h2.os, h2.tape, h2.output, h2.drawn, h2.size, fun b hb _ => hsame b hb, fun b hb => .inl hb, fun _ _ h => .inl h⟩
    obtain ⟨pl, hp, ho⟩ := ha.obj l o e
    exact ⟨pl, hp, by rw [hsame _ (ha.lies l pl hp)]; exact ho⟩
  | panicked ch => exact he.elim
  | outgrown => exact he.elim
/-! ### the functions that a proof reads by their text, and those it has a table for -/
def Xof (L : List FuncId) (E : List (FuncId × (List DV → DH → Option (DV × DH)))) : Ext := fun f =>
  match E.lookup f with
  | some g => some g
  | none => if L.contains f then none else some fun _ _ => none
def okB (P : Program) (f : FuncId) : Bool :=
  match P.funcs[f]? with
  | some fn => match fn.body with
    | some c => !(fn.name == "runtime.NumGoroutine") && codeOk P c
    | none => true
  | none => true
theorem ext_nothing (f : FuncId) : ExtSound P (fun _ _ => none) f := fun args H r H' h => by cases h
theorem progOk_of {L : List FuncId} {E : List (FuncId × (List DV → DH → Option (DV × DH)))} (hmix : P.follows .mixedOrders = true) (hL : L.all (okB P) = true) (hE : ∀ f g, (f, g) ∈ E → ExtSound P g f) : ProgOk P (Xof L E) where
  mix := hmix
  body := fun f fn c hx hf hb => by
    unfold Xof at hx
    split at hx
    · cases hx
    · split at hx
      · rename_i hc
        have := List.all_eq_true.mp hL f (List.contains_iff_mem.mp hc)
        unfold okB at this
        rw [hf] at this
        simp only [hb, Bool.and_eq_true, Bool.not_eq_true'] at this
        exact ⟨this.1, codeOk_spec hmix this.2⟩
      · cases hx
  ext := fun f g hx => by
    unfold Xof at hx
    split at hx
    · rename_i g' hg
      cases hx
      exact hE f g (by
        clear hE
        induction E with
        | nil => cases hg
        | cons x E ih =>
          obtain ⟨a, b⟩ := x
          simp only [List.lookup] at hg
          split at hg
          · rename_i he
            cases hg
            have : f = a := by simpa using he
            subst this
            exact List.mem_cons_self
          · exact List.mem_cons_of_mem _ (ih hg))
    · split at hx
      · cases hx
      · cases hx; exact ext_nothing f
/-! ### more rounds -/
def CFle (cf cf' : CallF) : Prop := ∀ f a H r, cf f a H = some r → cf' f a H = some r
theorem CFle.refl (cf : CallF) : CFle cf cf := fun _ _ _ _ h => h
theorem opD_mono {cf cf' : CallF} (h : CFle cf cf') {o : Oper} {env : List DV} {H : DH} {r : DV × DH} (e : opD P cf o env H = some r) : opD P cf' o env H = some r := by
  unfold opD at *
  split
  · rename_i hop
    rw [hop] at e
    simp only at e ⊢
    split <;> rename_i hc <;> rw [hc] at e <;> simp only at e
    · exact h _ _ _ _ e
    · cases e
  · rename_i hop
    rw [hop] at e
    simp only at e ⊢
    split <;> rename_i hc <;> rw [hc] at e <;> simp only at e
    · exact h _ _ _ _ e
    · cases e
  · rename_i h1 h2
    split at e
    · rename_i hop; exact absurd hop (h1 _ _ _)
    · rename_i hop; exact absurd hop (h2 _ _ _ _)
    · exact e
theorem runOps_mono {cf cf' : CallF} (h : CFle cf cf') {ops : Array Oper} : ∀ (l : List Oper) (st st' : DSt), runOps P cf ops l st = some st' → runOps P cf' ops l st = some st'
  | [], st, st', e => e
  | o :: r, st, st', e => by
    simp only [runOps] at *
    split
    · rename_i hw
      rw [if_pos hw] at e
      split at e
      · rename_i v H1 ho
        rw [opD_mono h ho]
        exact runOps_mono h r _ _ e
      · cases e
    · rename_i hw
      rw [if_neg hw] at e
      exact runOps_mono h r _ _ e
theorem runDraw_mono {cf cf' : CallF} (h : CFle cf cf') {ops : Array Oper} {bef : Array Nat} : ∀ (l : List Oper) (i : Nat) (seen : List Seen) (was : List Was) (st st' : DSt), runDraw P cf ops bef l i seen was st = some st' → runDraw P cf' ops bef l i seen was st = some st'
  | [], i, seen, was, st, st', e => e
  | o :: r, i, seen, was, st, st', e => by
    simp only [runDraw] at *
    split
    · rename_i hw
      rw [if_pos hw] at e
      split at e
      · rename_i v H1 ho
        rw [opD_mono h ho]
        simp only
        split at e
        · rename_i hm
          rw [if_pos hm]
          split at e
          · rename_i hs
            rw [if_pos hs]
            exact runDraw_mono h r _ _ _ _ _ e
          · cases e
        · rename_i hm
          rw [if_neg hm]
          split at e
          · rename_i hr
            rw [if_pos hr]
            split at e
            · rename_i hs
              rw [if_pos hs]
              exact runDraw_mono h r _ _ _ _ _ e
            · cases e
          · rename_i hr
            rw [if_neg hr]
            exact runDraw_mono h r _ _ _ _ _ e
      · cases e
    · rename_i hw
      rw [if_neg hw] at e
      exact runDraw_mono h r _ _ _ _ _ e
theorem execD_mono {cf cf' : CallF} (h : CFle cf cf') : ∀ (k k' : Nat), k ≤ k' → ∀ (c : Code) (st : DSt) (r : DExit × DSt), execD P cf k c st = some r → execD P cf' k' c st = some r := by
  intro k
  induction k with
  | zero => intro k' _ c st r e; simp [execD] at e
  | succ k ih =>
    intro k' hk c st r e
    obtain ⟨m, rfl⟩ : ∃ m, k' = m + 1 := ⟨k' - 1, by omega⟩
    have hm : k ≤ m := by omega
    cases c <;> simp only [execD] at e ⊢ <;> try exact e
    case seq a b =>
      split at e
      · rename_i st1 h1
        rw [ih m hm _ _ _ h1]
        exact ih m hm _ _ _ e
      · rename_i hne
        rw [ih m hm _ _ _ e]
        obtain ⟨x, st2⟩ := r
        cases x with
        | normal => exact absurd e (hne st2)
        | exit id => rfl
        | ret => rfl
    case cond c x y =>
      split at e
      · rename_i t ht
        exact ih m hm _ _ _ e
      · cases e
    case block id c =>
      split at e
      · rename_i id' st1 h1
        rw [ih m hm _ _ _ h1]
        exact e
      · rename_i hne
        rw [ih m hm _ _ _ e]
        obtain ⟨x, st2⟩ := r
        cases x with
        | normal => rfl
        | exit id' => exact absurd e (hne id' st2)
        | ret => rfl
    case loop c =>
      split at e
      · rename_i st1 h1
        rw [ih m hm _ _ _ h1]
        exact ih m hm _ _ _ e
      · rename_i hne
        rw [ih m hm _ _ _ e]
        obtain ⟨x, st2⟩ := r
        cases x with
        | normal => exact absurd e (hne st2)
        | exit id => rfl
        | ret => rfl
    case region id ops dr =>
      cases dr with
      | false =>
        simp only [execD] at e ⊢
        cases hr : runOps P cf ops ops.toList st with
        | none => rw [hr] at e; cases e
        | some st1 => rw [hr] at e; rw [runOps_mono h _ _ _ hr]; exact e
      | true =>
        simp only [execD] at e ⊢
        cases hr : runDraw P cf ops (Region.before ops) ops.toList 0 [] [] st with
        | none => rw [hr] at e; cases e
        | some st1 => rw [hr] at e; rw [runDraw_mono h _ _ _ _ _ _ hr]; exact e
theorem callD_mono : ∀ (k k' : Nat), k ≤ k' → CFle (callD P X k) (callD P X k') := by
  intro k
  induction k with
  | zero => intro k' _ f a H r e; simp [callD] at e
  | succ k ih =>
    intro k' hk f a H r e
    obtain ⟨m, rfl⟩ : ∃ m, k' = m + 1 := ⟨k' - 1, by omega⟩
    simp only [callD] at e ⊢
    split
    · rename_i g hg; rw [hg] at e; exact e
    · rename_i hg
      rw [hg] at e
      simp only at e
      split
      · rename_i fn hf
        rw [hf] at e
        simp only at e
        split
        · rename_i c hc
          rw [hc] at e
          simp only at e
          split at e
          · rename_i st he
            rw [execD_mono (ih m (by omega)) _ _ (by omega) _ _ _ he]
            exact e
          · rename_i st he
            rw [execD_mono (ih m (by omega)) _ _ (by omega) _ _ _ he]
            exact e
          · cases e
        · rename_i hc; rw [hc] at e; cases e
      · rename_i hf; rw [hf] at e; cases e
end
end Go.Det

/- Reasoning about code: what it comes to, with no numbers of rounds. -/
namespace Go.Det
set_option linter.unusedVariables false
set_option linter.unusedSimpArgs false
section
variable {P : Program} {X : Ext}
theorem getD_zero (x : DV) (xs : List DV) (d : DV) : (x :: xs).getD 0 d = x := rfl
theorem getD_succ (x : DV) (xs : List DV) (n : Nat) (d : DV) : (x :: xs).getD (n + 1) d = xs.getD n d := rfl
theorem fieldAt_zero (x : Field) (xs : List Field) (h : 0 < (x :: xs).toArray.size) : (x :: xs).toArray[0] = x := rfl
theorem fieldAt_succ (x : Field) (xs : List Field) (n : Nat) (h : n + 1 < (x :: xs).toArray.size) : (x :: xs).toArray[n + 1] = xs.toArray[n]'(by simpa using h) := rfl
theorem DH.new_next (H : DH) (o : DObj) : (H.new o).next = H.next + 1 := rfl
theorem DH.set_next (H : DH) (l : Nat) (o : Option DObj) : (H.set l o).next = H.next := rfl
/-- A call comes to an answer of which K holds. -/
structure CallWp (P : Program) (X : Ext) (f : FuncId) (args : List DV) (H : DH) (K : DV → DH → Prop) : Prop where
  ex : ∃ k r H', callD P X k f args H = some (r, H') ∧ K r H'
/-- A code comes to an exit of which Q holds. -/
structure Dwp (P : Program) (X : Ext) (c : Code) (st : DSt) (Q : DExit → DSt → Prop) : Prop where
  ex : ∃ k e st', execD P (callD P X k) k c st = some (e, st') ∧ Q e st'
structure OpsWp (P : Program) (X : Ext) (all : Array Oper) (l : List Oper) (st : DSt) (K : DSt → Prop) : Prop where
  ex : ∃ k st', runOps P (callD P X k) all l st = some st' ∧ K st'
structure OpWp (P : Program) (X : Ext) (o : Oper) (env : List DV) (H : DH) (K : DV → DH → Prop) : Prop where
  ex : ∃ k v H', opD P (callD P X k) o env H = some (v, H') ∧ K v H'
theorem CallWp.mono {f : FuncId} {args : List DV} {H : DH} {K K' : DV → DH → Prop} (h : CallWp P X f args H K) (hk : ∀ r H', K r H' → K' r H') : CallWp P X f args H K' := by
  obtain ⟨k, r, H', h1, h2⟩ := h.ex
  exact ⟨⟨k, r, H', h1, hk _ _ h2⟩⟩
theorem Dwp.mono {c : Code} {st : DSt} {Q Q' : DExit → DSt → Prop} (h : Dwp P X c st Q) (hk : ∀ e st', Q e st' → Q' e st') : Dwp P X c st Q' := by
  obtain ⟨k, e, st', h1, h2⟩ := h.ex
  exact ⟨⟨k, e, st', h1, hk _ _ h2⟩⟩
theorem dwp_skip {st : DSt} {Q : DExit → DSt → Prop} (h : Q .normal st) : Dwp P X .skip st Q := ⟨⟨1, _, _, rfl, h⟩⟩
theorem dwp_ret {st : DSt} {Q : DExit → DSt → Prop} (h : Q .ret st) : Dwp P X .ret st Q := ⟨⟨1, _, _, rfl, h⟩⟩
theorem dwp_exit {n : Nat} {st : DSt} {Q : DExit → DSt → Prop} (h : Q (.exit n) st) : Dwp P X (.exit n) st Q := ⟨⟨1, _, _, rfl, h⟩⟩
/-- What follows a first part. -/
def thenD (next : DSt → Prop) (Q : DExit → DSt → Prop) : DExit → DSt → Prop
  | .normal, st => next st
  | e, st => Q e st
theorem dwp_seq {a b : Code} {st : DSt} {Q : DExit → DSt → Prop} (h : Dwp P X a st (thenD (fun st => Dwp P X b st Q) Q)) : Dwp P X (.seq a b) st Q := by
  obtain ⟨k, e, st1, h1, h2⟩ := h.ex
  cases e with
  | normal =>
    obtain ⟨k2, e2, st2, h3, h4⟩ := h2.ex
    refine ⟨⟨k + k2 + 1, e2, st2, ?_, h4⟩⟩
    simp only [execD]
    rw [execD_mono (callD_mono k (k + k2 + 1) (by omega)) k (k + k2) (by omega) _ _ _ h1]
    exact execD_mono (callD_mono k2 (k + k2 + 1) (by omega)) k2 (k + k2) (by omega) _ _ _ h3
  | exit id =>
    refine ⟨⟨k + 1, .exit id, st1, ?_, h2⟩⟩
    simp only [execD]
    rw [execD_mono (callD_mono k (k + 1) (by omega)) k k (by omega) _ _ _ h1]
  | ret =>
    refine ⟨⟨k + 1, .ret, st1, ?_, h2⟩⟩
    simp only [execD]
    rw [execD_mono (callD_mono k (k + 1) (by omega)) k k (by omega) _ _ _ h1]
theorem dwp_cond {c : Operand} {x y : Code} {st : DSt} {Q : DExit → DSt → Prop} {t : Bool} (hc : evalO st.env c = some (.bool t)) (ht : t = true → Dwp P X x st Q) (hf : t = false → Dwp P X y st Q) : Dwp P X (.cond c x y) st Q := by
  have : Dwp P X (if t then x else y) st Q := by cases t with
    | true => exact ht rfl
    | false => exact hf rfl
  obtain ⟨k, e, st', h1, h2⟩ := this.ex
  refine ⟨⟨k + 1, e, st', ?_, h2⟩⟩
  simp only [execD, hc]
  exact execD_mono (callD_mono k (k + 1) (by omega)) k k (by omega) _ _ _ h1
/-- What leaves a block. -/
def blockD (id : Nat) (Q : DExit → DSt → Prop) : DExit → DSt → Prop
  | .exit id', st => if id' = id then Q .normal st else Q (.exit id') st
  | e, st => Q e st
theorem dwp_block {id : Nat} {c : Code} {st : DSt} {Q : DExit → DSt → Prop} (h : Dwp P X c st (blockD id Q)) : Dwp P X (.block id c) st Q := by
  obtain ⟨k, e, st1, h1, h2⟩ := h.ex
  have h1' := execD_mono (callD_mono k (k + 1) (by omega)) k k (by omega) _ _ _ h1
  cases e with
  | normal => exact ⟨⟨k + 1, .normal, st1, by simp only [execD]; rw [h1'], h2⟩⟩
  | ret => exact ⟨⟨k + 1, .ret, st1, by simp only [execD]; rw [h1'], h2⟩⟩
  | exit id' =>
    simp only [blockD] at h2
    split at h2
    · rename_i hid
      exact ⟨⟨k + 1, .normal, st1, by simp only [execD]; rw [h1']; simp only [hid, if_true], h2⟩⟩
    · rename_i hid
      exact ⟨⟨k + 1, .exit id', st1, by simp only [execD]; rw [h1']; simp only [hid, if_false], h2⟩⟩
/-- A loop, with what holds ahead of each round and what each round lessens. -/
theorem dwp_loop {c : Code} {st : DSt} {Q : DExit → DSt → Prop} (I : DSt → Prop) (μ : DSt → Nat) (h0 : I st) (hstep : ∀ st, I st → Dwp P X c st (thenD (fun st' => I st' ∧ μ st' < μ st) Q)) : Dwp P X (.loop c) st Q := by
  have key : ∀ n st, μ st < n → I st → Dwp P X (.loop c) st Q := by
    intro n
    induction n with
    | zero => intro st h; omega
    | succ n ih =>
      intro st hn hI
      obtain ⟨k, e, st1, h1, h2⟩ := (hstep st hI).ex
      cases e with
      | normal =>
        obtain ⟨k2, e2, st2, h3, h4⟩ := (ih st1 (by have := h2.2; omega) h2.1).ex
        refine ⟨⟨k + k2 + 1, e2, st2, ?_, h4⟩⟩
        simp only [execD]
        rw [execD_mono (callD_mono k (k + k2 + 1) (by omega)) k (k + k2) (by omega) _ _ _ h1]
        exact execD_mono (callD_mono k2 (k + k2 + 1) (by omega)) k2 (k + k2) (by omega) _ _ _ h3
      | exit id =>
        refine ⟨⟨k + 1, .exit id, st1, ?_, h2⟩⟩
        simp only [execD]
        rw [execD_mono (callD_mono k (k + 1) (by omega)) k k (by omega) _ _ _ h1]
      | ret =>
        refine ⟨⟨k + 1, .ret, st1, ?_, h2⟩⟩
        simp only [execD]
        rw [execD_mono (callD_mono k (k + 1) (by omega)) k k (by omega) _ _ _ h1]
  exact key _ st (Nat.lt_succ_self _) h0
/-- One round of a loop, then the loop again. -/
theorem dwp_round {c : Code} {st : DSt} {Q : DExit → DSt → Prop} (h : Dwp P X c st (thenD (fun st' => Dwp P X (.loop c) st' Q) Q)) : Dwp P X (.loop c) st Q := by
  obtain ⟨k, e, st1, h1, h2⟩ := h.ex
  cases e with
  | normal =>
    obtain ⟨k2, e2, st2, h3, h4⟩ := h2.ex
    refine ⟨⟨k + k2 + 1, e2, st2, ?_, h4⟩⟩
    simp only [execD]
    rw [execD_mono (callD_mono k (k + k2 + 1) (by omega)) k (k + k2) (by omega) _ _ _ h1]
    exact execD_mono (callD_mono k2 (k + k2 + 1) (by omega)) k2 (k + k2) (by omega) _ _ _ h3
  | exit id =>
    refine ⟨⟨k + 1, .exit id, st1, ?_, h2⟩⟩
    simp only [execD]
    rw [execD_mono (callD_mono k (k + 1) (by omega)) k k (by omega) _ _ _ h1]
  | ret =>
    refine ⟨⟨k + 1, .ret, st1, ?_, h2⟩⟩
    simp only [execD]
    rw [execD_mono (callD_mono k (k + 1) (by omega)) k k (by omega) _ _ _ h1]
theorem dwp_region {id : Nat} {ops : Array Oper} {st : DSt} {Q : DExit → DSt → Prop} (h : OpsWp P X ops ops.toList st (fun st' => Q .normal st')) : Dwp P X (.region id ops false) st Q := by
  obtain ⟨k, st', h1, h2⟩ := h.ex
  refine ⟨⟨k + 1, .normal, st', ?_, h2⟩⟩
  simp only [execD]
  rw [runOps_mono (callD_mono k (k + 1) (by omega)) _ _ _ h1]
  rfl
theorem ops_nil {all : Array Oper} {st : DSt} {K : DSt → Prop} (h : K st) : OpsWp P X all [] st K := ⟨⟨0, st, rfl, h⟩⟩
/-- An operation, of no guard. -/
theorem ops_cons {all : Array Oper} {o : Oper} {r : List Oper} {st : DSt} {K : DSt → Prop} (hw : Region.wanted o (dyield all st.env) = true)
    (h : OpWp P X o st.env st.H (fun v H => OpsWp P X all r ⟨putD st.env o.dst v, H⟩ K)) : OpsWp P X all (o :: r) st K := by
  obtain ⟨k, v, H, h1, ⟨k2, st', h2, h3⟩⟩ := h.ex
  refine ⟨⟨k + k2, st', ?_, h3⟩⟩
  simp only [runOps, hw, if_true]
  rw [opD_mono (callD_mono k (k + k2) (by omega)) h1]
  exact runOps_mono (callD_mono k2 (k + k2) (by omega)) _ _ _ h2
/-- An operation that its guard leaves out. -/
theorem ops_off {all : Array Oper} {o : Oper} {r : List Oper} {st : DSt} {K : DSt → Prop} (hw : Region.wanted o (dyield all st.env) = false)
    (h : OpsWp P X all r ⟨putD st.env o.dst undefD, st.H⟩ K) : OpsWp P X all (o :: r) st K := by
  obtain ⟨k, st', h2, h3⟩ := h.ex
  refine ⟨⟨k, st', ?_, h3⟩⟩
  simp only [runOps, hw]
  exact h2
/-- An operation that is no call. -/
theorem op_at {o : Oper} {env : List DV} {H : DH} {K : DV → DH → Prop} {v : DV} {H' : DH} (h : opD P (fun _ _ _ => none) o env H = some (v, H')) (hk : K v H') : OpWp P X o env H K :=
  ⟨⟨0, v, H', by
    have := opD_mono (P := P) (cf := fun _ _ _ => none) (cf' := callD P X 0) (fun _ _ _ _ h => by cases h) h
    exact this, hk⟩⟩
/-- An operation of no guard. -/
theorem ops_plain {all : Array Oper} {o : Oper} {r : List Oper} {st : DSt} {K : DSt → Prop} (hg : o.guard = none)
    (h : OpWp P X o st.env st.H (fun v H => OpsWp P X all r ⟨putD st.env o.dst v, H⟩ K)) : OpsWp P X all (o :: r) st K :=
  ops_cons (by unfold Region.wanted; rw [hg]) h
theorem wanted_at {o : Oper} {y : Nat → Option Bool} {g : Nat} {w b : Bool} (hg : o.guard = some (g, w)) (hy : y g = some b) : Region.wanted o y = (b == w) := by
  unfold Region.wanted
  rw [hg]
  simp only [hy]
  cases b <;> cases w <;> rfl
theorem wanted_plain {o : Oper} {y : Nat → Option Bool} (hg : o.guard = none) : Region.wanted o y = true := by unfold Region.wanted; rw [hg]
theorem wanted_on {o : Oper} {y : Nat → Option Bool} {g : Nat} {w b : Bool} (hg : o.guard = some (g, w)) (hy : y g = some b) (hb : b = w) : Region.wanted o y = true := by rw [wanted_at hg hy, hb]; simp
theorem wanted_off1 {o : Oper} {y : Nat → Option Bool} {g : Nat} {b : Bool} (hg : o.guard = some (g, true)) (hy : y g = some b) (hb : b = false) : Region.wanted o y = false := by rw [wanted_at hg hy, hb]; rfl
theorem wanted_off0 {o : Oper} {y : Nat → Option Bool} {g : Nat} {b : Bool} (hg : o.guard = some (g, false)) (hy : y g = some b) (hb : b = true) : Region.wanted o y = false := by rw [wanted_at hg hy, hb]; rfl
theorem ops_on {all : Array Oper} {o : Oper} {r : List Oper} {st : DSt} {K : DSt → Prop} {g : Nat} {w b : Bool} (hg : o.guard = some (g, w)) (hy : dyield all st.env g = some b) (hb : b = w)
    (h : OpWp P X o st.env st.H (fun v H => OpsWp P X all r ⟨putD st.env o.dst v, H⟩ K)) : OpsWp P X all (o :: r) st K :=
  ops_cons (by rw [wanted_at hg hy, hb]; simp) h
theorem ops_off1 {all : Array Oper} {o : Oper} {r : List Oper} {st : DSt} {K : DSt → Prop} {g : Nat} {b : Bool} (hg : o.guard = some (g, true)) (hy : dyield all st.env g = some b) (hb : b = false)
    (h : OpsWp P X all r ⟨putD st.env o.dst undefD, st.H⟩ K) : OpsWp P X all (o :: r) st K :=
  ops_off (by rw [wanted_at hg hy, hb]; rfl) h
theorem ops_off0 {all : Array Oper} {o : Oper} {r : List Oper} {st : DSt} {K : DSt → Prop} {g : Nat} {b : Bool} (hg : o.guard = some (g, false)) (hy : dyield all st.env g = some b) (hb : b = true)
    (h : OpsWp P X all r ⟨putD st.env o.dst undefD, st.H⟩ K) : OpsWp P X all (o :: r) st K :=
  ops_off (by rw [wanted_at hg hy, hb]; rfl) h
theorem ops_split0 {all : Array Oper} {o : Oper} {r : List Oper} {st : DSt} {K : DSt → Prop} {g : Nat} {b : Bool} (hg : o.guard = some (g, false)) (hy : dyield all st.env g = some b)
    (ht : b = false → OpWp P X o st.env st.H (fun v H => OpsWp P X all r ⟨putD st.env o.dst v, H⟩ K)) (hf : b = true → OpsWp P X all r ⟨putD st.env o.dst undefD, st.H⟩ K) : OpsWp P X all (o :: r) st K := by
  cases b with
  | false => exact ops_on hg hy rfl (ht rfl)
  | true => exact ops_off0 hg hy rfl (hf rfl)
theorem op_pick {o : Oper} {c x y : Operand} (ho : o.op = .pick c x y) {env : List DV} {H : DH} {K : DV → DH → Prop} {b : Bool} (hc : evalO env c = some (.bool b)) (ht : b = true → ∃ v, evalO env x = some v ∧ K v H) (hf : b = false → ∃ v, evalO env y = some v ∧ K v H) : OpWp P X o env H K := by
  cases b with
  | true =>
    obtain ⟨v, h1, h2⟩ := ht rfl
    refine op_at (v := v) (H' := H) ?_ h2
    simp only [opD, ho, mover, reader, pureD, hc, h1]
    rfl
  | false =>
    obtain ⟨v, h1, h2⟩ := hf rfl
    refine op_at (v := v) (H' := H) ?_ h2
    simp only [opD, ho, mover, reader, pureD, hc, h1]
    rfl
theorem op_pick_t {o : Oper} {c x y : Operand} (ho : o.op = .pick c x y) {env : List DV} {H : DH} {K : DV → DH → Prop} {b : Bool} (hc : evalO env c = some (.bool b)) (hb : b = true) {v : DV} (hx : evalO env x = some v) (hk : K v H) : OpWp P X o env H K :=
  op_pick ho hc (fun _ => ⟨v, hx, hk⟩) (fun h => by rw [hb] at h; cases h)
theorem op_pick_f {o : Oper} {c x y : Operand} (ho : o.op = .pick c x y) {env : List DV} {H : DH} {K : DV → DH → Prop} {b : Bool} (hc : evalO env c = some (.bool b)) (hb : b = false) {v : DV} (hx : evalO env y = some v) (hk : K v H) : OpWp P X o env H K :=
  op_pick ho hc (fun h => by rw [hb] at h; cases h) (fun _ => ⟨v, hx, hk⟩)
theorem dwp_cond_t {c : Operand} {x y : Code} {st : DSt} {Q : DExit → DSt → Prop} {t : Bool} (hc : evalO st.env c = some (.bool t)) (ht : t = true) (h : Dwp P X x st Q) : Dwp P X (.cond c x y) st Q :=
  dwp_cond hc (fun _ => h) (fun hf => by rw [ht] at hf; cases hf)
theorem dwp_cond_f {c : Operand} {x y : Code} {st : DSt} {Q : DExit → DSt → Prop} {t : Bool} (hc : evalO st.env c = some (.bool t)) (ht : t = false) (h : Dwp P X y st Q) : Dwp P X (.cond c x y) st Q :=
  dwp_cond hc (fun hf => by rw [ht] at hf; cases hf) (fun _ => h)
/-- A call. -/
theorem op_call {o : Oper} {c : Call} (ho : o.op = .call c) (hc : isCall o.op = true) {env : List DV} {H : DH} {K : DV → DH → Prop} {f : FuncId} {args : List DV} (h : calleeD P (evalO env) c = some (f, args)) (hk : CallWp P X f args H K) : OpWp P X o env H K := by
  obtain ⟨k, r, H', h1, h2⟩ := hk.ex
  refine ⟨⟨k, r, H', ?_, h2⟩⟩
  unfold opD
  split
  · rename_i heq
    rw [ho] at heq
    cases heq
    rw [h]
    exact h1
  · rename_i heq
    rw [ho] at heq
    cases heq
    rw [h]
    exact h1
  · rename_i h3 h4
    exfalso
    rw [ho] at hc h3 h4
    obtain ⟨callee, as, ts⟩ := c
    cases callee with
    | value x => exact h3 _ _ _ rfl
    | invoke r n => exact h4 _ _ _ _ rfl
    | builtin b => simp [isCall] at hc
/-- What a call of a function's text comes to. -/
def retD (P : Program) (fn : Func) (K : DV → DH → Prop) : DExit → DSt → Prop
  | .normal, st | .ret, st => ∃ r, resultsD P fn st = some r ∧ K r st.H
  | _, _ => False
theorem call_text {f : FuncId} {fn : Func} {c : Code} (hx : X f = none) (hf : P.funcs[f]? = some fn) (hb : fn.body = some c) {args : List DV} {H : DH} {K : DV → DH → Prop}
    (h : Dwp P X c ⟨args ++ List.replicate (fn.ntmps - args.length) undefD, H⟩ (retD P fn K)) : CallWp P X f args H K := by
  obtain ⟨k, e, st, h1, h2⟩ := h.ex
  have h1' := execD_mono (callD_mono k k (by omega)) k (k + 1) (by omega) _ _ _ h1
  cases e with
  | exit id => exact h2.elim
  | normal =>
    obtain ⟨r, h3, h4⟩ := h2
    exact ⟨⟨k + 1, r, st.H, by simp only [callD, hx, hf, hb, h1', h3]; rfl, h4⟩⟩
  | ret =>
    obtain ⟨r, h3, h4⟩ := h2
    exact ⟨⟨k + 1, r, st.H, by simp only [callD, hx, hf, hb, h1', h3]; rfl, h4⟩⟩
/-- The results of a call. -/
def resOf (P : Program) (res : List ResultVar) (env : List DV) (H : DH) : Option DV :=
  match (res.map fun r => match r with
    | .tmp t => some (env.getD t undefD)
    | .cell a t => loadD P t H (env.getD a undefD)) with
  | [v] => v
  | vs => if vs.all Option.isSome then some (.tuple (vs.map fun v => v.getD undefD)) else none
def retR (P : Program) (res : List ResultVar) (K : DV → DH → Prop) : DExit → DSt → Prop
  | .normal, st | .ret, st => ∃ r, resOf P res st.env st.H = some r ∧ K r st.H
  | _, _ => False
/-- A function is entered. -/
theorem enter {f : FuncId} {fn : Func} {c : Code} {n : Nat} {res : Array ResultVar} (hx : X f = none) (hf : P.funcs[f]? = some fn) (hb : fn.body = some c) (hn : fn.ntmps = n) (hr : fn.results = res) {args : List DV} {H : DH} {K : DV → DH → Prop}
    (h : Dwp P X c ⟨args ++ List.replicate (n - args.length) undefD, H⟩ (retR P res.toList K)) : CallWp P X f args H K := by
  subst hn
  subst hr
  refine call_text hx hf hb (h.mono fun e st he => ?_)
  cases e <;> exact he
theorem call_table {f : FuncId} {g : List DV → DH → Option (DV × DH)} (hx : X f = some g) {args : List DV} {H H' : DH} {r : DV} {K : DV → DH → Prop} (h : g args H = some (r, H')) (hk : K r H') : CallWp P X f args H K :=
  ⟨⟨1, r, H', by simp only [callD, hx]; exact h, hk⟩⟩
/-! ### regions that draw their order -/
structure DrawWp (P : Program) (X : Ext) (all : Array Oper) (bef : Array Nat) (l : List Oper) (i : Nat) (seen : List Seen) (was : List Was) (st : DSt) (K : DSt → Prop) : Prop where
  ex : ∃ k st', runDraw P (callD P X k) all bef l i seen was st = some st' ∧ K st'
theorem dwp_draw {id : Nat} {ops : Array Oper} {st : DSt} {Q : DExit → DSt → Prop} (bef : Array Nat) (hbef : Region.before ops = bef) (h : DrawWp P X ops bef ops.toList 0 [] [] st (fun st' => Q .normal st')) : Dwp P X (.region id ops true) st Q := by
  subst hbef
  obtain ⟨k, st', h1, h2⟩ := h.ex
  refine ⟨⟨k + 1, .normal, st', ?_, h2⟩⟩
  simp only [execD]
  rw [runDraw_mono (callD_mono k (k + 1) (by omega)) _ _ _ _ _ _ h1]
  rfl
theorem draw_nil {all : Array Oper} {bef : Array Nat} {i : Nat} {seen : List Seen} {was : List Was} {st : DSt} {K : DSt → Prop} (h : K st) : DrawWp P X all bef [] i seen was st K := ⟨⟨0, st, rfl, h⟩⟩
theorem draw_off {all : Array Oper} {bef : Array Nat} {i : Nat} {seen : List Seen} {was : List Was} {o : Oper} {r : List Oper} {st : DSt} {K : DSt → Prop} (hw : Region.wanted o (dyield all st.env) = false)
    (h : DrawWp P X all bef r (i + 1) seen was ⟨putD st.env o.dst undefD, st.H⟩ K) : DrawWp P X all bef (o :: r) i seen was st K := by
  obtain ⟨k, st', h2, h3⟩ := h.ex
  refine ⟨⟨k, st', ?_, h3⟩⟩
  simp only [runDraw, hw]
  exact h2
theorem draw_pure {all : Array Oper} {bef : Array Nat} {i : Nat} {seen : List Seen} {was : List Was} {o : Oper} {r : List Oper} {st : DSt} {K : DSt → Prop} (hw : Region.wanted o (dyield all st.env) = true) (hm : mover P o.op = false) (hr : reader P o.op = false)
    (h : OpWp P X o st.env st.H (fun v H => DrawWp P X all bef r (i + 1) seen was ⟨putD st.env o.dst v, H⟩ K)) : DrawWp P X all bef (o :: r) i seen was st K := by
  obtain ⟨k, v, H, h1, ⟨k2, st', h2, h3⟩⟩ := h.ex
  refine ⟨⟨k + k2, st', ?_, h3⟩⟩
  simp only [runDraw, hw, if_true]
  rw [opD_mono (callD_mono k (k + k2) (by omega)) h1]
  simp only [hm, hr]
  exact runDraw_mono (callD_mono k2 (k + k2) (by omega)) _ _ _ _ _ _ h2
theorem draw_read {all : Array Oper} {bef : Array Nat} {i : Nat} {seen : List Seen} {was : List Was} {o : Oper} {r : List Oper} {st : DSt} {K : DSt → Prop} (hw : Region.wanted o (dyield all st.env) = true) (hm : mover P o.op = false) (hr : reader P o.op = true)
    (h : OpWp P X o st.env st.H (fun v H => stillWas P (bef.getD i 0) was ⟨i, o, st.env, v⟩ = true ∧ DrawWp P X all bef r (i + 1) (⟨i, o, st.env, v⟩ :: seen) was ⟨putD st.env o.dst v, H⟩ K)) : DrawWp P X all bef (o :: r) i seen was st K := by
  obtain ⟨k, v, H, h1, hs, ⟨k2, st', h2, h3⟩⟩ := h.ex
  refine ⟨⟨k + k2, st', ?_, h3⟩⟩
  simp only [runDraw, hw, if_true]
  rw [opD_mono (callD_mono k (k + k2) (by omega)) h1]
  simp only [hm, hr, hs, if_true]
  exact runDraw_mono (callD_mono k2 (k + k2) (by omega)) _ _ _ _ _ _ h2
theorem draw_move {all : Array Oper} {bef : Array Nat} {i : Nat} {seen : List Seen} {was : List Was} {o : Oper} {r : List Oper} {st : DSt} {K : DSt → Prop} (hw : Region.wanted o (dyield all st.env) = true) (hm : mover P o.op = true)
    (h : OpWp P X o st.env st.H (fun v H => stillAll P (bef.getD i 0) seen H = true ∧ DrawWp P X all bef r (i + 1) seen (⟨i, st.H⟩ :: was) ⟨putD st.env o.dst v, H⟩ K)) : DrawWp P X all bef (o :: r) i seen was st K := by
  obtain ⟨k, v, H, h1, hs, ⟨k2, st', h2, h3⟩⟩ := h.ex
  refine ⟨⟨k + k2, st', ?_, h3⟩⟩
  simp only [runDraw, hw, if_true]
  rw [opD_mono (callD_mono k (k + k2) (by omega)) h1]
  simp only [hm, hs, if_true]
  exact runDraw_mono (callD_mono k2 (k + k2) (by omega)) _ _ _ _ _ _ h2
end
end Go.Det

/- Regions that draw their order, where what is called leaves the heap as it is, or comes behind all that stands before it. -/
namespace Go.Det
set_option linter.unusedVariables false
set_option linter.unusedSimpArgs false
mutual
theorem DV.beq_refl : ∀ (a : DV), DV.beq a a = true
  | .bool a => by simp [DV.beq]
  | .int _ _ => by simp [DV.beq]
  | .str _ => by simp [DV.beq]
  | .ptr _ => by simp [DV.beq]
  | .sl _ _ _ _ => by simp [DV.beq]
  | .map _ => by simp [DV.beq]
  | .nilFunc => by simp [DV.beq]
  | .nilIface => by simp [DV.beq]
  | .iface t v => by simp [DV.beq, DV.beq_refl v]
  | .agg a => by simp [DV.beq, DV.beqs_refl a]
  | .tuple a => by simp [DV.beq, DV.beqs_refl a]
  | .func f a c => by simp [DV.beq, DV.beqs_refl a, DV.beqs_refl c]
theorem DV.beqs_refl : ∀ (a : List DV), DV.beqs a a = true
  | [] => by simp [DV.beqs]
  | x :: a => by simp [DV.beqs, DV.beq_refl x, DV.beqs_refl a]
end
section
variable {P : Program} {X : Ext}
theorem still_of {s : Seen} {H : DH} (h : readD P s.o (evalO s.env) H = some s.v) : s.still P H = true := by
  unfold Seen.still
  rw [h]
  exact DV.beq_refl _
def allBits (b bi : Nat) : Bool := (List.range b).all fun j => bi.testBit j
theorem allBits_at {b bi j : Nat} (h : allBits b bi = true) (hj : j < b) : bi.testBit j = true := List.all_eq_true.mp h j (List.mem_range.mpr hj)
/-- What is left of a region whose operations below b stand before all that comes; what was read since reads the same. -/
structure DrawC (P : Program) (X : Ext) (all : Array Oper) (bef : Array Nat) (b i : Nat) (l : List Oper) (st : DSt) (K : DSt → Prop) : Prop where
  ex : ∀ seen was, (∀ s ∈ seen, s.i < i ∧ (b ≤ s.i → readD P s.o (evalO s.env) st.H = some s.v)) → (∀ w ∈ was, w.i < i ∧ (b ≤ w.i → w.H = st.H)) → DrawWp P X all bef l i seen was st K
theorem dwp_drawc {id : Nat} {ops : Array Oper} {st : DSt} {Q : DExit → DSt → Prop} (bef : Array Nat) (hbef : Region.before ops = bef) (h : DrawC P X ops bef 0 0 ops.toList st (fun st' => Q .normal st')) : Dwp P X (.region id ops true) st Q :=
  dwp_draw bef hbef (h.ex [] [] (by simp) (by simp))
section
variable {all : Array Oper} {bef : Array Nat} {b i : Nat} {o : Oper} {r : List Oper} {st : DSt} {K : DSt → Prop}
theorem drawc_nil (h : K st) : DrawC P X all bef b i [] st K := ⟨fun _ _ _ _ => draw_nil h⟩
theorem drawc_off (hw : Region.wanted o (dyield all st.env) = false) (h : DrawC P X all bef b (i + 1) r ⟨putD st.env o.dst undefD, st.H⟩ K) : DrawC P X all bef b i (o :: r) st K :=
  ⟨fun seen was hs hw' => draw_off hw (h.ex seen was (fun s m => ⟨by have := (hs s m).1; omega, (hs s m).2⟩) (fun s m => ⟨by have := (hw' s m).1; omega, (hw' s m).2⟩))⟩
theorem drawc_pure (hw : Region.wanted o (dyield all st.env) = true) (hm : mover P o.op = false) (hr : reader P o.op = false) {v : DV} (hv : opD P (fun _ _ _ => none) o st.env st.H = some (v, st.H))
    (h : DrawC P X all bef b (i + 1) r ⟨putD st.env o.dst v, st.H⟩ K) : DrawC P X all bef b i (o :: r) st K :=
  ⟨fun seen was hs hw' => draw_pure hw hm hr (op_at hv (h.ex seen was (fun s m => ⟨by have := (hs s m).1; omega, (hs s m).2⟩) (fun s m => ⟨by have := (hw' s m).1; omega, (hw' s m).2⟩)))⟩
theorem drawc_pick (hw : Region.wanted o (dyield all st.env) = true) {c x y : Operand} (ho : o.op = .pick c x y) {t : Bool} (hc : evalO st.env c = some (.bool t)) {v : DV} (hv : evalO st.env (if t then x else y) = some v)
    (h : DrawC P X all bef b (i + 1) r ⟨putD st.env o.dst v, st.H⟩ K) : DrawC P X all bef b i (o :: r) st K :=
  drawc_pure hw (by rw [ho]; rfl) (by rw [ho]; rfl) (v := v) (by
    simp only [opD, ho, mover, reader, pureD, hc]
    cases t <;> simp_all) h
theorem drawc_read (hw : Region.wanted o (dyield all st.env) = true) (hm : mover P o.op = false) (hr : reader P o.op = true) (hb : allBits b (bef.getD i 0) = true) {v : DV} (hv : opD P (fun _ _ _ => none) o st.env st.H = some (v, st.H))
    (h : DrawC P X all bef b (i + 1) r ⟨putD st.env o.dst v, st.H⟩ K) : DrawC P X all bef b i (o :: r) st K := by
  refine ⟨fun seen was hs hw' => draw_read hw hm hr (op_at hv ⟨?_, h.ex _ was ?_ (fun s m => ⟨by have := (hw' s m).1; omega, (hw' s m).2⟩)⟩)⟩
  · unfold stillWas
    rw [List.all_eq_true]
    intro w m
    rw [Bool.or_eq_true]
    rcases Nat.lt_or_ge w.i b with hlt | hge
    · exact .inl (allBits_at hb hlt)
    · right
      have := (hw' w m).2 hge
      rw [this]
      exact still_of ((opD_stays hv hm).2.1 hr)
  · intro s m
    rcases List.mem_cons.mp m with rfl | m
    · exact ⟨Nat.lt_succ_self _, fun _ => (opD_stays hv hm).2.1 hr⟩
    · exact ⟨by have := (hs s m).1; omega, (hs s m).2⟩
/-- A call that leaves the heap as it is. -/
theorem drawc_same (hw : Region.wanted o (dyield all st.env) = true) (hm : mover P o.op = true) (hb : allBits b (bef.getD i 0) = true)
    (h : OpWp P X o st.env st.H (fun v H => H = st.H ∧ DrawC P X all bef b (i + 1) r ⟨putD st.env o.dst v, st.H⟩ K)) : DrawC P X all bef b i (o :: r) st K := by
  refine ⟨fun seen was hs hw' => draw_move hw hm ?_⟩
  obtain ⟨k, v, H, h1, hH, h2⟩ := h.ex
  subst hH
  refine ⟨⟨k, v, st.H, h1, ?_, h2.ex _ _ ?_ ?_⟩⟩
  · unfold stillAll
    rw [List.all_eq_true]
    intro s m
    rw [Bool.or_eq_true]
    rcases Nat.lt_or_ge s.i b with hlt | hge
    · exact .inl (allBits_at hb hlt)
    · exact .inr (still_of ((hs s m).2 hge))
  · exact fun s m => ⟨by have := (hs s m).1; omega, (hs s m).2⟩
  · intro w m
    rcases List.mem_cons.mp m with rfl | m
    · exact ⟨Nat.lt_succ_self _, fun _ => rfl⟩
    · exact ⟨by have := (hw' w m).1; omega, (hw' w m).2⟩
/-- What changes the heap, behind all that stands before it. -/
theorem drawc_sync (hw : Region.wanted o (dyield all st.env) = true) (hm : mover P o.op = true) (hb : allBits i (bef.getD i 0) = true)
    (h : OpWp P X o st.env st.H (fun v H => DrawC P X all bef (i + 1) (i + 1) r ⟨putD st.env o.dst v, H⟩ K)) : DrawC P X all bef b i (o :: r) st K := by
  refine ⟨fun seen was hs hw' => draw_move hw hm ?_⟩
  obtain ⟨k, v, H, h1, h2⟩ := h.ex
  refine ⟨⟨k, v, H, h1, ?_, h2.ex _ _ ?_ ?_⟩⟩
  · unfold stillAll
    rw [List.all_eq_true]
    intro s m
    rw [Bool.or_eq_true]
    exact .inl (allBits_at hb (hs s m).1)
  · exact fun s m => ⟨by have := (hs s m).1; omega, fun h => by have := (hs s m).1; omega⟩
  · intro w m
    rcases List.mem_cons.mp m with rfl | m
    · exact ⟨Nat.lt_succ_self _, fun h => absurd h (by simp only; omega)⟩
    · exact ⟨by have := (hw' w m).1; omega, fun h => by have := (hw' w m).1; omega⟩
end
end
end Go.Det

/- What a typed row looks like. -/
namespace Go.Det
set_option linter.unusedVariables false
section
variable {P : Program} {H : DH} {t : TypeId} {cs : List DV}
theorem typed_int {k : IntKind} (hu : P.underlying t = some (.int k)) (h : Typed P H t cs) : ∃ n, cs = [.int k n] ∧ (Lit.int k n).wf = true := by
  cases h <;> simp_all
theorem typed_slice {e : TypeId} (hu : P.underlying t = some (.slice e)) (h : Typed P H t cs) : cs = [.sl none 0 0 true] ∨
    ∃ l n rs, cs = [.sl (some (l, 0, P.cellsOf e)) n rs.length true] ∧ H.obj l = some (.rows true (P.cellsOf e) rs) ∧ n ≤ rs.length ∧ rs.length ≤ maxLen ∧ ∀ (i : Nat) (r : List DV), rs[i]? = some r → Typed P H e r := by
  cases h with
  | nil h1 => exact .inl rfl
  | @slice _ e' l n rs h1 h2 h3 h4 h5 =>
    rw [hu] at h1
    cases h1
    exact .inr ⟨l, n, rs, rfl, h2, h3, h4, h5⟩
  | bool h1 => rw [hu] at h1; cases h1
  | int h1 => rw [hu] at h1; cases h1
  | str h1 => rw [hu] at h1; cases h1
  | struct h1 => rw [hu] at h1; cases h1
  | array h1 => rw [hu] at h1; cases h1
theorem typed_struct {fs : Array Field} (hu : P.underlying t = some (.struct fs)) (h : Typed P H t cs) : cs.length = P.cellsOf t ∧ ∀ f ∈ fs.toList, Typed P H f.type ((cs.drop f.offset).take (P.cellsOf f.type)) := by
  cases h with
  | struct h1 h2 h3 =>
    rw [hu] at h1
    cases h1
    exact ⟨h2, h3⟩
  | nil h1 => rw [hu] at h1; cases h1
  | slice h1 => rw [hu] at h1; cases h1
  | bool h1 => rw [hu] at h1; cases h1
  | int h1 => rw [hu] at h1; cases h1
  | str h1 => rw [hu] at h1; cases h1
  | array h1 => rw [hu] at h1; cases h1
theorem targ_one {d : DV} (hu : ∀ fs, P.underlying t ≠ some (.struct fs)) (hu' : ∀ n e, P.underlying t ≠ some (.array n e)) (h : TArg P H t d) : Typed P H t [d] := by
  unfold TArg at h
  split at h
  · rename_i fs e; exact absurd e (hu fs)
  · rename_i n e' e; exact absurd e (hu' n e')
  · exact h
end
end Go.Det

/- Loads and stores where the heap is told as what was made behind a heap of whatever kind. -/
namespace Go.Det
set_option linter.unusedVariables false
set_option linter.unusedSimpArgs false
section
variable {P : Program} {H : DH}
theorem obj_here {l : Nat} {o : DObj} (h : l = H.next) : (H.new o).obj l = some o := by subst h; simp [DH.new]
theorem obj_skip {l : Nat} {o : DObj} {x : Option DObj} (h : l ≠ H.next) (k : H.obj l = x) : (H.new o).obj l = x := by simp [DH.new, h, k]
theorem obj_set {l : Nat} {o : Option DObj} : (H.set l o).obj l = o := by simp [DH.set]
theorem obj_past {l m : Nat} {o x : Option DObj} (h : l ≠ m) (k : H.obj l = x) : (H.set m o).obj l = x := by simp [DH.set, h, k]
theorem opD_load {cf : CallF} {o : Oper} {t : TypeId} {a : Operand} (ho : o.op = .load t a) {env : List DV} {l i q : Nat} (hp : evalO env a = some (.ptr (some (l, i, q)))) {ro : Bool} {sz : Nat} {rs : List (List DV)} (hobj : H.obj l = some (.rows ro sz rs))
    {r : List DV} (hr : rs[i]? = some r) {v : DV} (hv : partD P t r q = some v) : opD P cf o env H = some (v, H) := by
  simp only [opD, ho, mover, reader, readD, hp, loadD, hobj, hr, hv]
  rfl
theorem opD_store {cf : CallF} {o : Oper} {t : TypeId} {a x : Operand} (ho : o.op = .store t a x) {env : List DV} {l i q : Nat} (hp : evalO env a = some (.ptr (some (l, i, q)))) {v : DV} (hx : evalO env x = some v) {n : Nat} (hn : sizeT P t = some n) (hc : v.cells.length = n)
    {sz : Nat} {rs rs' : List (List DV)} (hobj : H.obj l = some (.rows false sz rs)) (hs : setRow rs i q v.cells = some rs') : opD P cf o env H = some (undefD, H.set l (some (.rows false sz rs'))) := by
  simp only [opD, ho, mover, moveD, hp, hx, storeD, hn, hobj, hc, hs, if_true]
  rfl
theorem opD_neql {cf : CallF} {o : Oper} {t u : TypeId} {x y : Operand} (ho : o.op = .binOp .neq t x y u) {env : List DV} {a b : List DV} (hx : evalO env x = some (.agg a)) (hy : evalO env y = some (.agg b)) {c : Bool} (hc : eqD P t (.agg a) (.agg b) = some c) : opD P cf o env H = some (.bool (!c), H) := by
  simp only [opD, ho, mover, reader, pureD, hx, hy, binD, hc]
  rfl
/-- Bools' equality. -/
theorem opD_eqb {cf : CallF} {o : Oper} {t u : TypeId} {x y : Operand} (ho : o.op = .binOp .eql t x y u) {env : List DV} {a b : Bool} (hx : evalO env x = some (.bool a)) (hy : evalO env y = some (.bool b)) (ht : P.underlying t = some .bool) : opD P cf o env H = some (.bool (a == b), H) := by
  simp only [opD, ho, mover, reader, pureD, hx, hy, binD, eqD, eqT, ht]
  rfl
theorem opD_neqb {cf : CallF} {o : Oper} {t u : TypeId} {x y : Operand} (ho : o.op = .binOp .neq t x y u) {env : List DV} {a b : Bool} (hx : evalO env x = some (.bool a)) (hy : evalO env y = some (.bool b)) (ht : P.underlying t = some .bool) : opD P cf o env H = some (.bool (!(a == b)), H) := by
  simp only [opD, ho, mover, reader, pureD, hx, hy, binD, eqD, eqT, ht]
  rfl
/-- One equality, then others. -/
def andO (c : Bool) (r : Option Bool) : Option Bool :=
  match c with
  | true => r
  | false => some false
theorem andO_some (c d : Bool) : andO c (some d) = some (c && d) := by cases c <;> rfl
end
end Go.Det

/- What was there stays; tables for functions that read the heap. -/
namespace Go.Det
set_option linter.unusedVariables false
set_option linter.unusedSimpArgs false
/-- Nothing of what there was has changed. -/
structure Above (H H' : DH) : Prop where
  le : H.next ≤ H'.next
  same : ∀ l, l < H.next → H'.obj l = H.obj l
theorem Above.refl (H : DH) : Above H H := ⟨Nat.le_refl _, fun _ _ => rfl⟩
theorem Above.trans {A B C : DH} (h : Above A B) (k : Above B C) : Above A C := ⟨Nat.le_trans h.le k.le, fun l hl => (k.same l (Nat.lt_of_lt_of_le hl h.le)).trans (h.same l hl)⟩
theorem Above.new {A B : DH} (h : Above A B) (o : DObj) : Above A (B.new o) := ⟨Nat.le_succ_of_le h.le, fun l hl => by rw [obj_skip (by have := h.le; omega) (h.same l hl)]⟩
theorem Above.set {A B : DH} (h : Above A B) {l : Nat} (hl : A.next ≤ l) (o : Option DObj) : Above A (B.set l o) := ⟨h.le, fun m hm => obj_past (by omega) (h.same m hm)⟩
theorem Above.obj {A B : DH} (h : Above A B) {l : Nat} {x : Option DObj} (hl : l < A.next) (e : A.obj l = x) : B.obj l = x := (h.same l hl).trans e
/-- All places lie below the next. -/
def WF (H : DH) : Prop := ∀ l o, H.obj l = some o → l < H.next
theorem Agree.wf {ρ : Rho} {H : DH} {w : World} (h : Agree ρ H w) : WF H := fun l o e => by
  obtain ⟨pl, hp, _⟩ := h.obj l o e
  exact h.low l pl hp
theorem WF.new {H : DH} (h : WF H) (o : DObj) : WF (H.new o) := fun l x e => by
  simp only [DH.new] at e ⊢
  split at e
  · omega
  · have := h l x e; omega
section
variable {P : Program} {X : Ext}
theorem opD_index {H : DH} {cf : CallF} {o : Oper} {t e : TypeId} {x ix : Operand} (ho : o.op = .indexAddr t x ix) {env : List DV} {l i z n c : Nat} {ex : Bool} {j : IntKind} {m : Int} (hx : evalO env x = some (.sl (some (l, i, z)) n c ex)) (hix : evalO env ix = some (.int j m))
    (hu : P.underlying t = some (.slice e)) (hs : sizeT P e = some z) (hm : 0 ≤ m ∧ m < (n : Int)) : opD P cf o env H = some (.ptr (some (l, i + m.toNat, 0)), H) := by
  simp only [opD, ho, mover, reader, pureD, hx, hix, indexAddrD, hu, hs]
  rw [if_neg (by simp), if_neg (by simp), if_pos ⟨trivial, hm⟩]
  rfl
/-- A function that changes nothing of what there was and whose answer leads to no place. -/
theorem ext_read (hX : ProgOk P X) {f : FuncId} {fn : Func} {c : Code} (hf : P.funcs[f]? = some fn) (hb : fn.body = some c) (hx : X f = none) {g : List DV → DH → Option (DV × DH)}
    (hg : ∀ args H r H', WF H → g args H = some (r, H') → H' = H ∧ r.closed = true ∧ CallWp P X f args H fun r' H1 => r' = r ∧ Above H H1) : ExtSound P g f := by
  intro args H r H' h ρ w vs ha hv
  obtain ⟨rfl, hcr, hc⟩ := hg args H r H' ha.wf h
  obtain ⟨k, r', H1, hk, rfl, hab⟩ := hc.ex
  refine callOk_of_calls hf (hX.body f fn c hx hf hb).1 hb ((calls_sound hX hf hb hx hk ha hv).mono fun e w' he => ?_)
  cases e with
  | returned v =>
    obtain ⟨ρ', h1, h2⟩ := he
    exact ⟨ρ, VR.closed _ _ hcr h1, h2.drop ha fun l o e => hab.obj (ha.wf l o e) e⟩
  | panicked ch => exact he.elim
  | outgrown => exact he.elim
end
end Go.Det

/- Regions that draw their order, where what is read stays readable in all heaps of a kind, and what is done stays within that kind. -/
namespace Go.Det
set_option linter.unusedVariables false
set_option linter.unusedSimpArgs false
section
variable {P : Program} {X : Ext}
/-- What is left of a region whose operations below b stand before all that comes; what was read since reads the same in each heap of the kind Φ. -/
structure DrawP (P : Program) (X : Ext) (all : Array Oper) (bef : Array Nat) (b : Nat) (Φ : DH → Prop) (i : Nat) (l : List Oper) (st : DSt) (K : DSt → Prop) : Prop where
  ex : ∀ seen was, (∀ s ∈ seen, s.i < i ∧ (b ≤ s.i → ∀ H', Φ H' → readD P s.o (evalO s.env) H' = some s.v)) → (∀ w ∈ was, w.i < i ∧ (b ≤ w.i → Φ w.H)) → Φ st.H → DrawWp P X all bef l i seen was st K
theorem wanted_none {o : Oper} {y : Nat → Option Bool} {g : Nat} {w : Bool} (hg : o.guard = some (g, w)) (hy : y g = none) : Region.wanted o y = false := by unfold Region.wanted; rw [hg]; simp [hy]
theorem dwp_drawp {id : Nat} {ops : Array Oper} {st : DSt} {Q : DExit → DSt → Prop} (bef : Array Nat) (hbef : Region.before ops = bef) (Φ : DH → Prop) (h0 : Φ st.H) (h : DrawP P X ops bef 0 Φ 0 ops.toList st (fun st' => Q .normal st')) : Dwp P X (.region id ops true) st Q :=
  dwp_draw bef hbef (h.ex [] [] (by simp) (by simp) h0)
section
variable {all : Array Oper} {bef : Array Nat} {b i : Nat} {Φ : DH → Prop} {o : Oper} {r : List Oper} {st : DSt} {K : DSt → Prop}
theorem drawc_pick_t (hw : Region.wanted o (dyield all st.env) = true) {c x y : Operand} (ho : o.op = .pick c x y) {t : Bool} (hc : evalO st.env c = some (.bool t)) (hb : t = true) {v : DV} (hv : evalO st.env x = some v)
    (h : DrawC P X all bef b (i + 1) r ⟨putD st.env o.dst v, st.H⟩ K) : DrawC P X all bef b i (o :: r) st K :=
  drawc_pick hw ho hc (by subst hb; exact hv) h
theorem drawc_pick_f (hw : Region.wanted o (dyield all st.env) = true) {c x y : Operand} (ho : o.op = .pick c x y) {t : Bool} (hc : evalO st.env c = some (.bool t)) (hb : t = false) {v : DV} (hv : evalO st.env y = some v)
    (h : DrawC P X all bef b (i + 1) r ⟨putD st.env o.dst v, st.H⟩ K) : DrawC P X all bef b i (o :: r) st K :=
  drawc_pick hw ho hc (by subst hb; exact hv) h
theorem drawp_nil (h : K st) : DrawP P X all bef b Φ i [] st K := ⟨fun _ _ _ _ _ => draw_nil h⟩
theorem drawp_off (hw : Region.wanted o (dyield all st.env) = false) (h : DrawP P X all bef b Φ (i + 1) r ⟨putD st.env o.dst undefD, st.H⟩ K) : DrawP P X all bef b Φ i (o :: r) st K :=
  ⟨fun seen was hs hw' h0 => draw_off hw (h.ex seen was (fun s m => ⟨by have := (hs s m).1; omega, (hs s m).2⟩) (fun s m => ⟨by have := (hw' s m).1; omega, (hw' s m).2⟩) h0)⟩
theorem drawp_pure (hw : Region.wanted o (dyield all st.env) = true) (hm : mover P o.op = false) (hr : reader P o.op = false) {v : DV} (hv : opD P (fun _ _ _ => none) o st.env st.H = some (v, st.H))
    (h : DrawP P X all bef b Φ (i + 1) r ⟨putD st.env o.dst v, st.H⟩ K) : DrawP P X all bef b Φ i (o :: r) st K :=
  ⟨fun seen was hs hw' h0 => draw_pure hw hm hr (op_at hv (h.ex seen was (fun s m => ⟨by have := (hs s m).1; omega, (hs s m).2⟩) (fun s m => ⟨by have := (hw' s m).1; omega, (hw' s m).2⟩) h0))⟩
theorem drawp_read (hw : Region.wanted o (dyield all st.env) = true) (hm : mover P o.op = false) (hr : reader P o.op = true) (hb : allBits b (bef.getD i 0) = true) {v : DV} (hv : ∀ H', Φ H' → opD P (fun _ _ _ => none) o st.env H' = some (v, H'))
    (h : DrawP P X all bef b Φ (i + 1) r ⟨putD st.env o.dst v, st.H⟩ K) : DrawP P X all bef b Φ i (o :: r) st K := by
  refine ⟨fun seen was hs hw' h0 => draw_read hw hm hr (op_at (hv _ h0) ⟨?_, h.ex _ was ?_ (fun s m => ⟨by have := (hw' s m).1; omega, (hw' s m).2⟩) h0⟩)⟩
  · unfold stillWas
    rw [List.all_eq_true]
    intro w m
    rw [Bool.or_eq_true]
    rcases Nat.lt_or_ge w.i b with hlt | hge
    · exact .inl (allBits_at hb hlt)
    · right
      exact still_of ((opD_stays (hv _ ((hw' w m).2 hge)) hm).2.1 hr)
  · intro s m
    rcases List.mem_cons.mp m with rfl | m
    · exact ⟨Nat.lt_succ_self _, fun _ H' hp => (opD_stays (hv _ hp) hm).2.1 hr⟩
    · exact ⟨by have := (hs s m).1; omega, (hs s m).2⟩
/-- What changes the heap, but stays within its kind. -/
theorem drawp_move (hw : Region.wanted o (dyield all st.env) = true) (hm : mover P o.op = true) (hb : allBits b (bef.getD i 0) = true)
    (h : OpWp P X o st.env st.H (fun v H => Φ H ∧ DrawP P X all bef b Φ (i + 1) r ⟨putD st.env o.dst v, H⟩ K)) : DrawP P X all bef b Φ i (o :: r) st K := by
  refine ⟨fun seen was hs hw' h0 => draw_move hw hm ?_⟩
  obtain ⟨k, v, H, h1, hH, h2⟩ := h.ex
  refine ⟨⟨k, v, H, h1, ?_, h2.ex _ _ ?_ ?_ hH⟩⟩
  · unfold stillAll
    rw [List.all_eq_true]
    intro s m
    rw [Bool.or_eq_true]
    rcases Nat.lt_or_ge s.i b with hlt | hge
    · exact .inl (allBits_at hb hlt)
    · exact .inr (still_of ((hs s m).2 hge _ hH))
  · exact fun s m => ⟨by have := (hs s m).1; omega, (hs s m).2⟩
  · intro w m
    rcases List.mem_cons.mp m with rfl | m
    · exact ⟨Nat.lt_succ_self _, fun _ => h0⟩
    · exact ⟨by have := (hw' w m).1; omega, (hw' w m).2⟩
/-- What changes the heap, behind all that stands before it: the kind may be another one from there on. -/
theorem drawp_sync (Ψ : DH → Prop) (hw : Region.wanted o (dyield all st.env) = true) (hm : mover P o.op = true) (hb : allBits i (bef.getD i 0) = true)
    (h : OpWp P X o st.env st.H (fun v H => Ψ H ∧ DrawP P X all bef (i + 1) Ψ (i + 1) r ⟨putD st.env o.dst v, H⟩ K)) : DrawP P X all bef b Φ i (o :: r) st K := by
  refine ⟨fun seen was hs hw' h0 => draw_move hw hm ?_⟩
  obtain ⟨k, v, H, h1, hH, h2⟩ := h.ex
  refine ⟨⟨k, v, H, h1, ?_, h2.ex _ _ ?_ ?_ hH⟩⟩
  · unfold stillAll
    rw [List.all_eq_true]
    intro s m
    rw [Bool.or_eq_true]
    exact .inl (allBits_at hb (hs s m).1)
  · exact fun s m => ⟨by have := (hs s m).1; omega, fun h => by have := (hs s m).1; omega⟩
  · intro w m
    rcases List.mem_cons.mp m with rfl | m
    · exact ⟨Nat.lt_succ_self _, fun h => absurd h (by simp only; omega)⟩
    · exact ⟨by have := (hw' w m).1; omega, fun h => by have := (hw' w m).1; omega⟩
end
end
end Go.Det

/- Slices whose rows are told; slices of one's own, that grow. -/
namespace Go.Det
set_option linter.unusedVariables false
set_option linter.unusedSimpArgs false
theorem junk_facts {A : Prop} {env : List DV} {H H' : DH} {F : (Nat → DV) → List DV} (ha : A) (h : F (fun k => env.getD k undefD) = env) (hH : H = H') : ∃ J : Nat → DV, A ∧ (⟨env, H⟩ : DSt) = ⟨F J, H'⟩ := ⟨_, ha, by rw [h, hH]⟩
/-- A slice's rows: where it leads to, R lie. -/
inductive Sl (H : DH) (z : Nat) (R : List (List DV)) : Option (Nat × Nat × Nat) → Prop
  | nil : R = [] → Sl H z R none
  | at {loc i : Nat} {ro : Bool} {rs : List (List DV)} : loc < H.next → H.obj loc = some (.rows ro z rs) → i + R.length ≤ rs.length → (rs.drop i).take R.length = R → Sl H z R (some (loc, i, z))
section
variable {H H' A : DH} {z : Nat} {R : List (List DV)} {p : Option (Nat × Nat × Nat)}
theorem Sl.rd (h : Sl H z R p) {k : Nat} {r : List DV} (hk : R[k]? = some r) : ∃ loc i ro rs, p = some (loc, i, z) ∧ loc < H.next ∧ H.obj loc = some (.rows ro z rs) ∧ rs[i + k]? = some r := by
  cases h with
  | nil h => subst h; simp at hk
  | @«at» loc i ro rs h1 h2 h3 h4 =>
    refine ⟨loc, i, ro, rs, rfl, h1, h2, ?_⟩
    have hlt := (List.getElem?_eq_some_iff.mp hk).1
    rw [← h4, List.getElem?_take, if_pos hlt, List.getElem?_drop] at hk
    exact hk
theorem Sl.mono (h : Sl H z R p) (ha : Above H H') : Sl H' z R p := by
  cases h with
  | nil h => exact .nil h
  | «at» h1 h2 h3 h4 => exact .at (Nat.lt_of_lt_of_le h1 ha.le) (ha.obj h1 h2) h3 h4
theorem Sl.rows (h : Sl H z R p) (c : Nat) (ex : Bool) : rowsOf H (.sl p R.length c ex) = some R := by
  cases h with
  | nil h => subst h; rfl
  | «at» h1 h2 h3 h4 => simp only [rowsOf, h2, if_pos h3, h4]
theorem Sl.fresh {ro : Bool} : Sl (H.new (.rows ro z R)) z R (some (H.next, 0, z)) := .at (Nat.lt_succ_self _) (obj_here rfl) (by omega) (by simp)
theorem Sl.new (h : Sl H z R p) (o : DObj) : Sl (H.new o) z R p := h.mono ((Above.refl H).new o)
theorem Sl.set (h : Sl H z R p) (m : Nat) (o : Option DObj) (hm : ∀ loc i z, p = some (loc, i, z) → loc ≠ m) : Sl (H.set m o) z R p := by
  cases h with
  | nil h => exact .nil h
  | «at» h1 h2 h3 h4 => exact .at h1 (obj_past (hm _ _ _ rfl) h2) h3 h4
theorem Sl.sub (h : Sl H z R p) {a b : Nat} (hab : a ≤ b) (hb : b ≤ R.length) : Sl H z ((R.drop a).take (b - a)) (p.map fun (l, i, z) => (l, i + a, z)) := by
  cases h with
  | nil h => subst h; exact .nil (by simp)
  | @«at» loc i ro rs h1 h2 h3 h4 =>
    have e : ((R.drop a).take (b - a)).length = b - a := by rw [List.length_take, List.length_drop]; omega
    refine .at h1 h2 (by rw [e]; omega) ?_
    rw [e]
    conv => rhs; rw [← h4]
    rw [List.drop_take, List.take_take, List.drop_drop, Nat.min_eq_left (by omega)]
theorem Sl.size {l i y : Nat} (h : Sl H z R (some (l, i, y))) : y = z := by cases h; rfl
theorem Sl.none_len (h : Sl H z R none) : R = [] := by cases h; assumption
end
/-- All but one place as it was. -/
structure AboveX (x : Nat → Prop) (H H' : DH) : Prop where
  le : H.next ≤ H'.next
  same : ∀ l, l < H.next → ¬ x l → H'.obj l = H.obj l
theorem AboveX.refl {x : Nat → Prop} (H : DH) : AboveX x H H := ⟨Nat.le_refl _, fun _ _ _ => rfl⟩
theorem AboveX.of {x : Nat → Prop} {H H' : DH} (h : Above H H') : AboveX x H H' := ⟨h.le, fun l hl _ => h.same l hl⟩
theorem AboveX.trans {x : Nat → Prop} {A B C : DH} (h : AboveX x A B) (k : AboveX x B C) : AboveX x A C := ⟨Nat.le_trans h.le k.le, fun l hl hx => (k.same l (Nat.lt_of_lt_of_le hl h.le) hx).trans (h.same l hl hx)⟩
theorem AboveX.above {x : Nat → Prop} {A H H' : DH} (ha : Above A H) (h : AboveX x H H') (hx : ∀ l, x l → A.next ≤ l) : Above A H' :=
  ⟨Nat.le_trans ha.le h.le, fun l hl => (h.same l (Nat.lt_of_lt_of_le hl ha.le) fun k => by have := hx l k; omega).trans (ha.same l hl)⟩
theorem AboveX.set (x : Nat → Prop) (H : DH) (l : Nat) (o : Option DObj) (hx : x l) : AboveX x H (H.set l o) := ⟨Nat.le_refl _, fun m _ hm => obj_past (fun e => hm (e ▸ hx)) rfl⟩
theorem AboveX.new (x : Nat → Prop) (H : DH) (o : DObj) : AboveX x H (H.new o) := .of ((Above.refl H).new o)
theorem AboveX.none {H H' : DH} (h : AboveX (fun _ => False) H H') : Above H H' := ⟨h.le, fun l hl => h.same l hl id⟩
/-- Where a slice leads to. -/
def leads (s : DV) (l : Nat) : Prop := ∃ i z n c ex, s = .sl (some (l, i, z)) n c ex
theorem leads_at {a i z n c l m : Nat} {ex : Bool} (h : leads (.sl (some (a, i, z)) n c ex) l) (k : m ≤ a) : m ≤ l := by
  obtain ⟨_, _, _, _, _, e⟩ := h
  cases e
  exact k
/-- A slice of one's own: made since the heap was A, or empty. -/
inductive Mine (A H : DH) (z : Nat) (R : List (List DV)) : DV → Prop
  | nil : R = [] → Mine A H z R (.sl none 0 0 true)
  | empty {loc i : Nat} {ro : Bool} {rs : List (List DV)} : R = [] → loc < H.next → H.obj loc = some (.rows ro z rs) → i ≤ rs.length → Mine A H z R (.sl (some (loc, i, z)) 0 0 true)
  | at {loc : Nat} {ex : Bool} : A.next ≤ loc → loc < H.next → H.obj loc = some (.rows false z R) → Mine A H z R (.sl (some (loc, 0, z)) R.length R.length ex)
section
variable {H H' A : DH} {z : Nat} {R : List (List DV)} {s : DV}
theorem Mine.sl (h : Mine A H z R s) : ∃ p c ex, s = .sl p R.length c ex ∧ Sl H z R p := by
  cases h with
  | nil h => subst h; exact ⟨none, 0, true, rfl, .nil rfl⟩
  | empty h h1 h2 h3 => subst h; exact ⟨_, 0, true, rfl, .at h1 h2 (by simpa using h3) (by simp)⟩
  | «at» h1 h2 h3 => exact ⟨_, _, _, rfl, .at h2 h3 (by omega) (by simp)⟩
theorem Mine.wr (h : Mine A H z R s) {k : Nat} {r : List DV} (hk : R[k]? = some r) : ∃ loc ex, s = .sl (some (loc, 0, z)) R.length R.length ex ∧ A.next ≤ loc ∧ loc < H.next ∧ H.obj loc = some (.rows false z R) := by
  cases h with
  | nil h => subst h; simp at hk
  | empty h h1 h2 h3 => subst h; simp at hk
  | «at» h1 h2 h3 => exact ⟨_, _, rfl, h1, h2, h3⟩
theorem Mine.mono (h : Mine A H z R s) (ha : Above H H') : Mine A H' z R s := by
  cases h with
  | nil h => exact .nil h
  | empty h h1 h2 h3 => exact .empty h (Nat.lt_of_lt_of_le h1 ha.le) (ha.obj h1 h2) h3
  | «at» h1 h2 h3 => exact .at h1 (Nat.lt_of_lt_of_le h2 ha.le) (ha.obj h2 h3)
theorem Mine.older {B : DH} (h : Mine A H z R s) (hb : B.next ≤ A.next) : Mine B H z R s := by
  cases h with
  | nil h => exact .nil h
  | empty h h1 h2 h3 => exact .empty h h1 h2 h3
  | «at» h1 h2 h3 => exact .at (Nat.le_trans hb h1) h2 h3
end
/-- The facts of an element's type. -/
structure ElemT (P : Program) (st e : TypeId) (z by_ : Nat) (z0 : DV) : Prop where
  u : P.underlying st = some (.slice e)
  s : sizeT P e = some z
  b : bytesT P e = some by_
  zr : zeroT P e = some z0
  pos : 0 < z
  le : by_ ≤ 4096
  len : z0.cells.length = z
  one : z0.cells.all DV.one = true
section
variable {P : Program} {X : Ext} {st e : TypeId} {z by_ : Nat} {z0 : DV}
theorem appendD_mine (E : ElemT P st e z by_ z0) {A H : DH} {R new : List (List DV)} {s x : DV} {xt : Option TypeDesc} (hown : Mine A H z R s) (hab : Above A H) (hnew : appendedD P e H xt x = some new) (hall : new.all (fun r => r.length == z && r.all DV.one) = true) (hlen : R.length + new.length ≤ mostD) :
    ∃ s' H', appendD P st xt H s x = some (s', H') ∧ Mine A H' z (R ++ new) s' ∧ Above A H' ∧ AboveX (fun l => A.next ≤ l ∧ leads s l) H H' ∧ (new ≠ [] → ∀ l, leads s' l → H.next ≤ l) := by
  obtain ⟨m, rfl⟩ : ∃ m, z = m + 1 := ⟨z - 1, by have := E.pos; omega⟩
  have hc : by_ ≤ 4096 ∧ z0.cells.length = m + 1 ∧ (new.all fun r => r.length == m + 1 && r.all DV.one) = true := ⟨E.le, E.len, hall⟩
  unfold appendD
  simp only [E.u, E.s, E.b, E.zr, hnew]
  rw [if_pos hc]
  cases hown with
  | nil h =>
    subst h
    simp only
    by_cases hn : new = []
    · rw [if_pos hn]
      subst hn
      exact ⟨_, _, rfl, .nil rfl, hab, .refl H, fun hne => absurd rfl hne⟩
    · rw [if_neg hn, if_pos (by simpa using hlen)]
      exact ⟨_, _, rfl, .at (Nat.le_trans hab.le (Nat.le_refl _)) (Nat.lt_succ_self _) (obj_here rfl), hab.new _, .new _ _ _, fun _ l hl => leads_at hl (Nat.le_refl _)⟩
  | @empty loc i ro rs h h1 h2 h3 =>
    subst h
    simp only
    rw [if_neg (by simp)]
    by_cases hn : new = []
    · rw [if_pos hn]
      subst hn
      exact ⟨_, _, rfl, .empty rfl h1 h2 h3, hab, .refl H, fun hne => absurd rfl hne⟩
    · rw [if_neg hn]
      simp only [h2]
      have hpos : 0 < new.length := List.length_pos_iff.mpr hn
      rw [if_neg (by simp only [List.length_nil] at hlen; omega), if_neg (by omega), if_pos trivial]
      refine ⟨_, _, rfl, ?_, hab.new _, .new _ _ _, fun _ l hl => leads_at hl (Nat.le_refl _)⟩
      have e1 : (rs.drop i).take 0 ++ new = new := by simp
      rw [e1]
      have e2 : 0 + new.length = ([] ++ new).length := by simp
      rw [e2]
      exact .at (Nat.le_trans hab.le (Nat.le_refl _)) (Nat.lt_succ_self _) (obj_here rfl)
  | @«at» loc ex h1 h2 h3 =>
    simp only
    rw [if_neg (by simp)]
    by_cases hn : new = []
    · rw [if_pos hn]
      subst hn
      rw [List.append_nil]
      exact ⟨_, _, rfl, .at h1 h2 h3, hab, .refl H, fun hne => absurd rfl hne⟩
    · rw [if_neg hn]
      simp only [h3]
      have hpos : 0 < new.length := List.length_pos_iff.mpr hn
      rw [if_neg (by omega), if_neg (by omega)]
      have e1 : (R.drop 0).take R.length ++ new = R ++ new := by simp
      have e2 : R.length + new.length = (R ++ new).length := by simp
      rw [e1, e2]
      cases ex with
      | true =>
        rw [if_pos rfl]
        exact ⟨_, _, rfl, .at (Nat.le_trans hab.le (Nat.le_refl _)) (Nat.lt_succ_self _) (obj_here rfl), hab.new _, .new _ _ _, fun _ l hl => leads_at hl (Nat.le_refl _)⟩
      | false =>
        rw [if_neg (by simp), if_pos trivial]
        refine ⟨_, _, rfl, .at (Nat.le_trans hab.le (Nat.le_refl _)) (Nat.lt_succ_self _) (obj_here rfl), (hab.set h1 _).new _, ?_, fun _ l hl => leads_at hl (Nat.le_refl _)⟩
        exact (AboveX.set _ H loc none ⟨h1, _, _, _, _, _, rfl⟩).trans (.new _ _ _)
/-- One's own slice grows. -/
theorem op_append {o : Oper} {x y : Operand} {xt : TypeId} (ho : o.op = .call ⟨.builtin .append, #[x, y], #[st, xt]⟩) {env : List DV} {A H : DH} {K : DV → DH → Prop} {s d : DV} (hx : evalO env x = some s) (hy : evalO env y = some d)
    (E : ElemT P st e z by_ z0) {R new : List (List DV)} (hown : Mine A H z R s) (hab : Above A H) (hnew : appendedD P e H (P.underlying xt) d = some new) (hall : new.all (fun r => r.length == z && r.all DV.one) = true) (hlen : R.length + new.length ≤ mostD)
    (hk : ∀ s' H', Mine A H' z (R ++ new) s' → Above A H' → AboveX (fun l => A.next ≤ l ∧ leads s l) H H' → (new ≠ [] → ∀ l, leads s' l → H.next ≤ l) → K s' H') : OpWp P X o env H K := by
  obtain ⟨s', H', h1, h2, h3, h4, h5⟩ := appendD_mine E hown hab hnew hall hlen
  refine op_at (v := s') (H' := H') ?_ (hk s' H' h2 h3 h4 h5)
  simp only [opD, ho, mover, moveD, hx, hy, if_true]
  exact h1
theorem appended_sl {H : DH} {xt : Option TypeDesc} {t : TypeId} (hu : xt = some (.slice t)) {R : List (List DV)} {p : Option (Nat × Nat × Nat)} (h : Sl H z R p) (c : Nat) (ex : Bool) : appendedD P e H xt (.sl p R.length c ex) = some R := by
  subst hu
  simp only [appendedD]
  exact h.rows c ex
end
end Go.Det

/- A row out of what the deterministic reading comes to, all places below the next. -/
namespace Go.Det
set_option linter.unusedVariables false
set_option linter.unusedSimpArgs false
open Go.ChangeShapes Go.WideShapes Go.RowKit
section
variable {P : Program} {A : Type} {enc : TypeId × Value → A} {W : World}
end
end Go.Det

/- What lies at a place, behind a name: so that a fact of another heap is told apart at once. -/
namespace Go.Det
set_option linter.unusedVariables false
structure ObjAt (H : DH) (l : Nat) (o : DObj) : Prop where
  h : H.obj l = some o
theorem ob {H : DH} {l : Nat} {o : DObj} (h : H.obj l = some o) : ObjAt H l o := ⟨h⟩
structure RowAt (rs : List (List DV)) (i : Nat) (r : List DV) : Prop where
  h : rs[i]? = some r
/-- A place that there is. -/
structure Lo (H : DH) (l : Nat) : Prop where
  h : l < H.next
theorem lo {H : DH} {l : Nat} (h : l < H.next) : Lo H l := ⟨h⟩
theorem Lo.new {H : DH} {l : Nat} {o : DObj} (h : Lo H l) : Lo (H.new o) l := ⟨Nat.lt_succ_of_lt h.h⟩
theorem Lo.set {H : DH} {l m : Nat} {o : Option DObj} (h : Lo H l) : Lo (H.set m o) l := ⟨h.h⟩
theorem Lo.self {H : DH} {o : DObj} : Lo (H.new o) H.next := ⟨Nat.lt_succ_self _⟩
theorem Lo.self1 {H : DH} {o o' : DObj} : Lo ((H.new o').new o) (H.next + 1) := ⟨Nat.lt_succ_self _⟩
theorem Lo.self2 {H : DH} {o o' o'' : DObj} : Lo (((H.new o'').new o').new o) (H.next + 2) := ⟨Nat.lt_succ_self _⟩
theorem Lo.above {H H' : DH} {l : Nat} (k : Above H H') (h : Lo H l) : Lo H' l := ⟨Nat.lt_of_lt_of_le h.h k.le⟩
theorem Lo.ne {H : DH} {l : Nat} (h : Lo H l) : l ≠ H.next := Nat.ne_of_lt h.h
theorem Lo.ne1 {H : DH} {l : Nat} (h : Lo H l) : l ≠ H.next + 1 := Nat.ne_of_lt (Nat.lt_succ_of_lt h.h)
theorem Lo.ne' {H : DH} {l : Nat} (h : Lo H l) : H.next ≠ l := h.ne.symm
theorem Lo.ne1' {H : DH} {l : Nat} (h : Lo H l) : H.next + 1 ≠ l := h.ne1.symm
theorem ne_add1 (n : Nat) : n ≠ n + 1 := by omega
theorem ne_add2 (n : Nat) : n ≠ n + 2 := by omega
theorem ne_add12 (n : Nat) : n + 1 ≠ n + 2 := by omega
theorem ne_add1' (n : Nat) : n + 1 ≠ n := by omega
theorem ne_add2' (n : Nat) : n + 2 ≠ n := by omega
theorem ne_add21 (n : Nat) : n + 2 ≠ n + 1 := by omega
theorem obj_skip_lo {H : DH} {l : Nat} {o : DObj} {x : Option DObj} (h : Lo H l) (k : H.obj l = x) : (H.new o).obj l = x := obj_skip h.ne k
section
variable {P : Program} {X : Ext} {H : DH}
theorem op_load_at {o : Oper} {t : TypeId} {a : Operand} {env : List DV} {K : DV → DH → Prop} {l i q : Nat} {ro : Bool} {sz : Nat} {rs : List (List DV)} {r : List DV} {v : DV} (ho : o.op = .load t a) (hp : evalO env a = some (.ptr (some (l, i, q)))) (hobj : H.obj l = some (.rows ro sz rs))
    (hr : rs[i]? = some r) (hv : partD P t r q = some v) (hk : K v H) : OpWp P X o env H K := op_at (opD_load ho hp hobj hr hv) hk
theorem op_store_at {o : Oper} {t : TypeId} {a x : Operand} {env : List DV} {K : DV → DH → Prop} {l i q : Nat} {v : DV} {n : Nat} {sz : Nat} {rs rs' : List (List DV)} (ho : o.op = .store t a x) (hp : evalO env a = some (.ptr (some (l, i, q)))) (hx : evalO env x = some v)
    (hobj : H.obj l = some (.rows false sz rs)) (hs : setRow rs i q v.cells = some rs') (hn : sizeT P t = some n) (hc : v.cells.length = n) (hk : K undefD (H.set l (some (.rows false sz rs')))) : OpWp P X o env H K := op_at (opD_store ho hp hx hn hc hobj hs) hk
theorem op_index_at {o : Oper} {t e : TypeId} {x ix : Operand} {env : List DV} {K : DV → DH → Prop} {l i z n c : Nat} {ex : Bool} {j : IntKind} {m : Int} (ho : o.op = .indexAddr t x ix) (hx : evalO env x = some (.sl (some (l, i, z)) n c ex)) (hix : evalO env ix = some (.int j m)) (hm : 0 ≤ m ∧ m < (n : Int))
    (hu : P.underlying t = some (.slice e)) (hs : sizeT P e = some z) (hk : K (.ptr (some (l, i + m.toNat, 0))) H) : OpWp P X o env H K := op_at (opD_index ho hx hix hu hs hm) hk
theorem drawc_read_at {all : Array Oper} {bef : Array Nat} {b i : Nat} {o : Oper} {r : List Oper} {st : DSt} {K : DSt → Prop} {t : TypeId} {a : Operand} {l j q : Nat} {ro : Bool} {sz : Nat} {rs : List (List DV)} {row : List DV} {v : DV} (ho : o.op = .load t a) (hw : Region.wanted o (dyield all st.env) = true) (hp : evalO st.env a = some (.ptr (some (l, j, q)))) (hobj : st.H.obj l = some (.rows ro sz rs))
    (hr : rs[j]? = some row) (hv : partD P t row q = some v) (hb : allBits b (bef.getD i 0) = true) (h : DrawC P X all bef b (i + 1) r ⟨putD st.env o.dst v, st.H⟩ K) : DrawC P X all bef b i (o :: r) st K :=
  drawc_read hw (by rw [ho]; rfl) (by rw [ho]; rfl) hb (opD_load ho hp hobj hr hv) h
/-- What is appended to nothing is one's own. -/
theorem op_append_fresh {st e : TypeId} {z by_ : Nat} {z0 : DV} {o : Oper} {x y : Operand} {xt : TypeId} (ho : o.op = .call ⟨.builtin .append, #[x, y], #[st, xt]⟩) {env : List DV} {K : DV → DH → Prop} {d : DV} (hx : evalO env x = some (.sl none 0 0 true)) (hy : evalO env y = some d)
    (E : ElemT P st e z by_ z0) {new : List (List DV)} (hnew : appendedD P e H (P.underlying xt) d = some new) (hall : new.all (fun r => r.length == z && r.all DV.one) = true) (hlen : new.length ≤ mostD)
    (hk : ∀ s' H', Mine H H' z new s' → Above H H' → (∀ l, leads s' l → H.next ≤ l) → K s' H') : OpWp P X o env H K := by
  obtain ⟨m, rfl⟩ : ∃ m, z = m + 1 := ⟨z - 1, by have := E.pos; omega⟩
  have hc : by_ ≤ 4096 ∧ z0.cells.length = m + 1 ∧ (new.all fun r => r.length == m + 1 && r.all DV.one) = true := ⟨E.le, E.len, hall⟩
  by_cases hn : new = []
  · subst hn
    refine op_at (v := .sl none 0 0 true) (H' := H) ?_ (hk _ _ (.nil rfl) (Above.refl H) (fun l hl => by obtain ⟨_, _, _, _, _, e⟩ := hl; cases e))
    simp only [opD, ho, mover, moveD, hx, hy, if_true]
    unfold appendD
    simp only [E.u, E.s, E.b, E.zr, hnew]
    rw [if_pos hc, if_pos trivial]
  · refine op_at (v := .sl (some (H.next, 0, m + 1)) new.length new.length false) (H' := H.new (.rows false (m + 1) new)) ?_ (hk _ _ (.at (Nat.le_refl _) (Nat.lt_succ_self _) (obj_here rfl)) ((Above.refl H).new _) (fun l hl => leads_at hl (Nat.le_refl _)))
    simp only [opD, ho, mover, moveD, hx, hy, if_true]
    unfold appendD
    simp only [E.u, E.s, E.b, E.zr, hnew]
    rw [if_pos hc, if_neg hn, if_pos hlen]
/-- An operand of an index, for the code's own use. -/
structure IdxAt (v : DV) (l i z n c : Nat) (ex : Bool) : Prop where
  h : v = .sl (some (l, i, z)) n c ex
end
end Go.Det

/- Nothing appended. -/
namespace Go.Det
set_option linter.unusedVariables false
set_option linter.unusedSimpArgs false
section
variable {P : Program} {X : Ext}
/-- Where nothing is appended, a slice is as it was. -/
theorem op_append_none {st e : TypeId} {z by_ : Nat} {z0 : DV} {o : Oper} {x y : Operand} {xt : TypeId} (ho : o.op = .call ⟨.builtin .append, #[x, y], #[st, xt]⟩) {env : List DV} {H : DH} {K : DV → DH → Prop} {d : DV} {l i n c : Nat} {ex : Bool} (hx : evalO env x = some (.sl (some (l, i, z)) n c ex)) (hy : evalO env y = some d)
    (E : ElemT P st e z by_ z0) (hnew : appendedD P e H (P.underlying xt) d = some []) (hk : K (.sl (some (l, i, z)) n c ex) H) : OpWp P X o env H K := by
  obtain ⟨m, rfl⟩ : ∃ m, z = m + 1 := ⟨z - 1, by have := E.pos; omega⟩
  have hc : by_ ≤ 4096 ∧ z0.cells.length = m + 1 ∧ (([] : List (List DV)).all fun r => r.length == m + 1 && r.all DV.one) = true := ⟨E.le, E.len, rfl⟩
  refine op_at ?_ hk
  simp only [opD, ho, mover, moveD, hx, hy, if_true]
  unfold appendD
  simp only [E.u, E.s, E.b, E.zr, hnew]
  rw [if_pos hc, if_neg (by simp), if_pos trivial]
/-- A slice from a place on. -/
theorem opD_slice_lo {cf : CallF} {o : Oper} {t e : TypeId} {x lo : Operand} (ho : o.op = .slice t x (some lo) none none) {env : List DV} {H : DH} {l i z n c : Nat} {ex : Bool} {j : IntKind} {m : Int} (hx : evalO env x = some (.sl (some (l, i, z)) n c ex)) (hlo : evalO env lo = some (.int j m))
    (hu : P.underlying t = some (.slice e)) (hs : sizeT P e = some z) (hm : 0 ≤ m ∧ m ≤ (n : Int)) : opD P cf o env H = some (.sl (some (l, i + m.toNat, z)) (n - m.toNat) (c - m.toNat) ex, H) := by
  have hb : boundD n (.int j m) = some m.toNat := by simp only [boundD]; rw [if_pos hm]
  have hbd : boundsD n c (some (.int j m)) none none = some (m.toNat, n, c) := by
    rw [show boundsD n c (some (.int j m)) none none = (match boundD n (.int j m) with | none => none | some l => some (l, n, c)) from rfl, hb]
  simp only [opD, ho, mover, reader, pureD, hx, evOpt, hlo, Option.map_some, sliceD, hu, rowSz, hs, hbd]
  simp
/-- A slice up to a place. -/
theorem opD_slice_hi {cf : CallF} {o : Oper} {t e : TypeId} {x hi : Operand} (ho : o.op = .slice t x none (some hi) none) {env : List DV} {H : DH} {l i z n c : Nat} {ex : Bool} {j : IntKind} {m : Int} (hx : evalO env x = some (.sl (some (l, i, z)) n c ex)) (hhi : evalO env hi = some (.int j m))
    (hu : P.underlying t = some (.slice e)) (hs : sizeT P e = some z) (hm : 0 ≤ m ∧ m ≤ (c : Int)) : opD P cf o env H = some (.sl (some (l, i, z)) m.toNat c ex, H) := by
  have hb : boundD c (.int j m) = some m.toNat := by simp only [boundD]; rw [if_pos hm]
  have hbd : boundsD n c none (some (.int j m)) none = some (0, m.toNat, c) := by
    rw [show boundsD n c none (some (.int j m)) none = (match boundD c (.int j m) with | none => none | some h => some (0, h, c)) from rfl, hb]
  simp only [opD, ho, mover, reader, pureD, hx, evOpt, hhi, Option.map_some, sliceD, hu, rowSz, hs, hbd]
  simp
end
end Go.Det

/- A region in which a slice is built beside a call, in open order: what is built floats, until the text's order comes to it. -/
namespace Go.Det
set_option linter.unusedVariables false
set_option linter.unusedSimpArgs false
section
variable {P : Program} {ρ : Rho}
theorem opW {ops : Array Oper} {i : Nat} {o : Oper} (hi : ops[i]? = some o) (hg : o.guard = none) {cf : CallF} (hcf : CFSound P cf) {env : List DV} {H H' : DH} {d : DV} (h : opD P cf o env H = some (d, H')) {a : Act} {w : World} (he : EnvR ρ env a.tmps) (ha : Agree ρ H w)
    {K : Act → World → Prop} {Q : Exit → Act → World → Prop} (hk : ∀ v w' ρ', VR ρ' d v → Moves ρ H w ρ' H' w' → K (a.put o.dst v) w') : wpOp P ops Q i K a w := by
  unfold wpOp
  rw [hi]
  simp only
  rw [if_pos (by unfold Region.wanted; rw [hg])]
  exact .inl (op_wp hcf h he ha hk)
theorem mvW {ops : Array Oper} {i : Nat} {o : Oper} (hi : ops[i]? = some o) (hg : o.guard = none) {t : Tmp} (hop : o.op = .move (.tmp t)) {a : Act} {w : World}
    {K : Act → World → Prop} {Q : Exit → Act → World → Prop} (hk : K (a.put o.dst (a.tmps.getD t undef)) w) : wpOp P ops Q i K a w := by
  unfold wpOp
  rw [hi]
  simp only
  rw [if_pos (by unfold Region.wanted; rw [hg])]
  refine .inl ?_
  unfold Oper.wp
  have e : (execOp a.eval o).run P w = .ok (.value (a.tmps.getD t undef)) w := by
    simp [execOp, hop, Act.eval]
  rw [e]
  exact hk
theorem callW {ops : Array Oper} {i : Nat} {o : Oper} (hi : ops[i]? = some o) (hg : o.guard = none) {cf : CallF} (hcf : CFSound P cf) {f : FuncId} {t : Tmp} {ts : Array TypeId} (hop : o.op = .call ⟨.value (.func f), #[.tmp t], ts⟩) {x d : DV} {H H' : DH} (h : cf f [x] H = some (d, H')) {a : Act} {w : World} (hx : VR ρ x (a.tmps.getD t undef)) (ha : Agree ρ H w)
    {K : Act → World → Prop} {Q : Exit → Act → World → Prop} (hk : ∀ v w' ρ', VR ρ' d v → Moves ρ H w ρ' H' w' → K (a.put o.dst v) w') : wpOp P ops Q i K a w := by
  unfold wpOp
  rw [hi]
  simp only
  rw [if_pos (by unfold Region.wanted; rw [hg])]
  refine .inl ?_
  unfold Oper.wp
  refine upon_call (hcf f [x] H d H' h ρ w #[a.tmps.getD t undef] ha (.one hx)) ?_ (fun v w' ⟨ρ', h3, h4⟩ => hk v w' ρ' h3 h4)
  simp [execOp, hop, resolve, Deferred.ofValue, invoke, Act.eval]
theorem getD_put {a : Act} {t t' : Tmp} {v : Value} (h : t ≠ t') : (a.put (some t') v).tmps.getD t undef = a.tmps.getD t undef := by
  simp only [Act.put, Array.getD_eq_getD_getElem?, Array.getElem?_setIfInBounds]
  rw [if_neg (fun e => h e.symm)]
/-- A block that no place leads to, told by a place that comes later. -/
structure Floats (ρ : Rho) (H : DH) (w : World) (pl : Pl) (o : DObj) : Prop where
  lt : pl.block < w.heap.size
  not : ∀ l q, ρ l = some q → q.block ≠ pl.block
  obj : ObjR ρ pl w.heap[pl.block]? o
  own : ¬ Own ρ H pl.block
theorem Floats.land {H : DH} {w : World} {pl : Pl} {o : DObj} (h : Floats ρ H w pl o) {ρ1 : Rho} {H1 : DH} {w1 : World} (m : Moves ρ H w ρ1 H1 w1) (hro : o.ro = false) : Agree (ρ1.add H1.next pl) (H1.new o) w1 ∧ ρ1.le (ρ1.add H1.next pl) := by
  have ha := m.agree
  have hle := Rho.le_add ha pl
  have hne : ∀ l q, ρ1 l = some q → q.block ≠ pl.block := by
    intro l q hq e
    rcases m.fresh l q hq with h1 | h1 | h1
    · exact h.not l q h1 e
    · have := h.lt; omega
    · rw [e] at h1; exact h.own h1
  refine ⟨⟨?_, ?_, ?_, ?_⟩, hle⟩
  · intro l q hq
    unfold Rho.add at hq
    split at hq
    · rename_i e; subst e; exact Nat.lt_succ_self _
    · exact Nat.lt_succ_of_lt (ha.low l q hq)
  · intro l q hq
    unfold Rho.add at hq
    split at hq
    · cases hq; exact Nat.lt_of_lt_of_le h.lt m.size
    · exact ha.lies l q hq
  · intro l x hx
    simp only [DH.new] at hx
    split at hx
    · rename_i e
      subst e
      cases hx
      refine ⟨pl, Rho.add_same _ _ _, ?_⟩
      rw [m.same _ h.lt h.own]
      exact h.obj.mono (Rho.le_trans m.le hle)
    · obtain ⟨q, hq, hr⟩ := ha.obj l x hx
      exact ⟨q, hle _ _ hq, hr.mono hle⟩
  · intro l l' x x' q q' hn hx hx' hr hq hq'
    simp only [DH.new] at hx hx'
    unfold Rho.add at hq hq'
    split at hx
    · rename_i e
      rw [if_pos e] at hq
      cases hq
      rw [if_neg (by omega)] at hq' hx'
      exact fun e2 => hne l' q' hq' e2.symm
    · rename_i e
      rw [if_neg e] at hq
      split at hx'
      · rename_i e'
        rw [if_pos e'] at hq'
        cases hq'
        exact hne l q hq
      · rename_i e'
        rw [if_neg e'] at hq'
        exact ha.apart l l' x x' q q' hn hx hx' hr hq hq'
theorem Floats.moves {ρ0 : Rho} {H0 H : DH} {w0 w : World} {pl : Pl} {o : DObj} (h : Floats ρ H w pl o) (hw : Moves ρ0 H0 w0 ρ H w) (hb : w0.heap.size ≤ pl.block) {ρ1 : Rho} {H1 : DH} {w1 : World} (m : Moves ρ H w ρ1 H1 w1) (hro : o.ro = false) : Moves ρ0 H0 w0 (ρ1.add H1.next pl) (H1.new o) w1 := by
  obtain ⟨h1, h2⟩ := h.land m hro
  have k := hw.trans m
  refine ⟨Rho.le_trans k.le h2, h1, k.os, k.tape, k.output, k.drawn, k.size, k.same, ?_, ?_⟩
  · rintro b ⟨l, x, q, hx, hr, hq, rfl⟩
    simp only [DH.new] at hx
    unfold Rho.add at hq
    split at hx
    · rename_i e; rw [if_pos e] at hq; cases hq; exact .inr hb
    · rename_i e; rw [if_neg e] at hq; exact k.own _ ⟨l, x, q, hx, hr, hq, rfl⟩
  · intro l q hq
    unfold Rho.add at hq
    split at hq
    · cases hq; exact .inr (.inl hb)
    · exact k.fresh l q hq
/-- What was made floats. -/
theorem floats_of {H : DH} {w w' : World} {ρ' : Rho} {o : DObj} (ha : Agree ρ H w) (m : Moves ρ H w ρ' (H.new o) w') (hro : o.ro = false) (hc : ∀ pl b, ObjR ρ' pl b o → ObjR ρ pl b o) :
    ∃ pl, ρ' H.next = some pl ∧ w.heap.size ≤ pl.block ∧ Floats ρ H w' pl o ∧ Moves ρ H w ρ H w' := by
  obtain ⟨pl, hpl, ho⟩ := m.agree.obj H.next o (by simp [DH.new])
  have hkeep : ∀ l x, H.obj l = some x → (H.new o).obj l = some x := fun l x e => by
    have := ha.lt e
    simp only [DH.new]
    rw [if_neg (by omega)]
    exact e
  have hnot : ¬ Own ρ H pl.block := by
    rintro ⟨l, x, q, hx, hr, hq, e⟩
    have hl := ha.lt hx
    exact m.agree.apart l H.next x o q pl (by omega) (hkeep l x hx) (by simp [DH.new]) hr (m.le _ _ hq) hpl e
  have hb : w.heap.size ≤ pl.block := by
    rcases m.own pl.block ⟨H.next, o, pl, by simp [DH.new], hro, hpl, rfl⟩ with h | h
    · exact absurd h hnot
    · exact h
  refine ⟨pl, hpl, hb, ⟨m.agree.lies _ _ hpl, fun l q hq e => ?_, hc _ _ ho, hnot⟩, m.drop ha hkeep⟩
  have := ha.lies l q hq
  omega
theorem rows1_narrow {ρ' : Rho} (hle : ρ.le ρ') {z : Nat} {d : DV} {v : Value} (hv : VR ρ d v) {pl : Pl} {b : Option Obj} (h : ObjR ρ' pl b (.rows false z [d.cells])) : ObjR ρ pl b (.rows false z [d.cells]) := by
  have hc := VR.cells hv
  refine ⟨h.1, h.2.1, fun i r hr => ⟨(h.2.2.1 i r hr).1, fun j x hx => ?_⟩, h.2.2.2⟩
  obtain ⟨h1, c, h2, h3⟩ := (h.2.2.1 i r hr).2 j x hx
  have hrd : r = d.cells := by
    cases i with
    | zero => simpa using hr.symm
    | succ i => simp at hr
  subst hrd
  obtain ⟨y, _, hy⟩ := VRs.get j hc hx
  exact ⟨h1, c, h2, VR.narrow hle _ _ _ hy h3⟩
theorem buildRows_one {sz : Nat} {z v : DV} {rs : List (List DV)} (h : buildRows (sz + 1) (zerosD z.cells 1) [(0, v)] = some rs) : rs = [v.cells] := by
  unfold buildRows at h
  split at h
  · simp only [buildRows, zerosD] at h
    simpa using h.symm
  · cases h
theorem set_getD {e e' : List DV} {t : Nat} {v : DV} (h : e.length = e'.length) : (e.set t v).getD t undefD = (e'.set t v).getD t undefD := by
  simp only [List.getD, List.getElem?_set, h, if_true]
theorem regFloat (hmix : P.follows .mixedOrders = true) {o0 o1 o2 o3 o4 o5 : Oper} {p t0 t1 t2 t3 b : Tmp} {f : FuncId} {ts : Array TypeId} {T bt : TypeId}
    (h0 : o0.op = .move (.tmp p)) (h1 : o1.op = .call ⟨.value (.func f), #[.tmp t0], ts⟩) (h2 : o2.op = .load bt (.tmp b)) (h3 : o3.op = .buildSlice T 1 #[(0, .tmp t2)])
    (d0 : o0.dst = some t0) (d1 : o1.dst = some t1) (d2 : o2.dst = some t2) (d3 : o3.dst = some t3)
    (g0 : o0.guard = none) (g1 : o1.guard = none) (g2 : o2.guard = none) (g3 : o3.guard = none) (g4 : o4.guard = none) (g5 : o5.guard = none)
    (n01 : t0 ≠ t1) (n02 : t0 ≠ t2) (n03 : t0 ≠ t3) (n12 : t1 ≠ t2) (n13 : t1 ≠ t3) (n23 : t2 ≠ t3) (np2 : p ≠ t2) (np3 : p ≠ t3) (nb0 : b ≠ t0) (nb1 : b ≠ t1)
    (hb2 : ((Region.before #[o0, o1, o2, o3, o4, o5]).getD 2 0).testBit 1 = false)
    (r000000 : Region.ready .any #[o0, o1, o2, o3, o4, o5] #[false, false, false, false, false, false] = [0, 2])
    (r100000 : Region.ready .any #[o0, o1, o2, o3, o4, o5] #[true, false, false, false, false, false] = [1, 2])
    (r001000 : Region.ready .any #[o0, o1, o2, o3, o4, o5] #[false, false, true, false, false, false] = [0, 3])
    (r110000 : Region.ready .any #[o0, o1, o2, o3, o4, o5] #[true, true, false, false, false, false] = [2])
    (r101000 : Region.ready .any #[o0, o1, o2, o3, o4, o5] #[true, false, true, false, false, false] = [1, 3])
    (r001100 : Region.ready .any #[o0, o1, o2, o3, o4, o5] #[false, false, true, true, false, false] = [0])
    (r111000 : Region.ready .any #[o0, o1, o2, o3, o4, o5] #[true, true, true, false, false, false] = [3])
    (r101100 : Region.ready .any #[o0, o1, o2, o3, o4, o5] #[true, false, true, true, false, false] = [1])
    (r111100 : Region.ready .any #[o0, o1, o2, o3, o4, o5] #[true, true, true, true, false, false] = [4])
    (r111110 : Region.ready .any #[o0, o1, o2, o3, o4, o5] #[true, true, true, true, true, false] = [5])
    (r111111 : Region.ready .any #[o0, o1, o2, o3, o4, o5] #[true, true, true, true, true, true] = []) : RegSound P #[o0, o1, o2, o3, o4, o5] := by
  intro cf hcf st st' hrun id ρ Q a w he hd ha hq
  obtain ⟨E, HH, V, ht, he0, hh0, hen, hhn, _, _⟩ := trace_of _ 0 [] [] st rfl hrun
  rw [if_pos (Nat.zero_le _)] at hen hhn
  refine wp_region_any hmix ?_
  have on : ∀ k o, o.guard = none → Trace.on #[o0, o1, o2, o3, o4, o5] E k o := fun k o h => by unfold Trace.on Region.wanted; rw [h]
  have x0 := ht.op 0 o0 (Nat.zero_le _) rfl (on _ _ g0)
  have x1 := ht.op 1 o1 (Nat.zero_le _) rfl (on _ _ g1)
  have x2 := ht.op 2 o2 (Nat.zero_le _) rfl (on _ _ g2)
  have x3 := ht.op 3 o3 (Nat.zero_le _) rfl (on _ _ g3)
  have x4 := ht.op 4 o4 (Nat.zero_le _) rfl (on _ _ g4)
  have x5 := ht.op 5 o5 (Nat.zero_le _) rfl (on _ _ g5)
  have m1 : mover P o1.op = true := by rw [h1]; rfl
  have m2 : mover P o2.op = false := by rw [h2]; rfl
  have rd2 : reader P o2.op = true := by rw [h2]; rfl
  have y2 := ht.sooner 2 o2 1 o1 (Nat.zero_le _) (by omega) rfl rfl (on _ _ g2) (on _ _ g1) m2 rd2 m1 hb2
  have e1 := ht.env 0 o0 (Nat.zero_le _) rfl
  have e2 := ht.env 1 o1 (Nat.zero_le _) rfl
  have e3 := ht.env 2 o2 (Nat.zero_le _) rfl
  have e4 := ht.env 3 o3 (Nat.zero_le _) rfl
  have e5 := ht.env 4 o4 (Nat.zero_le _) rfl
  have e6 := ht.env 5 o5 (Nat.zero_le _) rfl
  simp only [Nat.zero_add, Nat.reduceAdd] at x0 x1 x2 x3 x4 x5 e1 e2 e3 e4 e5 e6 y2
  simp only [d0, d1, d2, d3, putD] at e1 e2 e3 e4
  have len1 : (E 1).length = (E 0).length := by rw [e1, List.length_set]
  have len2 : (E 2).length = (E 0).length := by rw [e2, List.length_set, len1]
  -- what each comes to
  have hV0 : V 0 = (E 0).getD p undefD ∧ HH 1 = HH 0 := by
    have := opD_stays x0 (by rw [h0]; rfl)
    refine ⟨?_, this.1⟩
    have h := this.2.2 (by rw [h0]; rfl)
    simp only [pureD, h0, evalO] at h
    simpa using h.symm
  obtain ⟨hV0, hH1⟩ := hV0
  rw [hH1] at x1 y2
  have c1 : cf f [(E 1).getD t0 undefD] (HH 0) = some (V 1, HH 2) := by
    simp only [opD, h1, calleeD, evs, evalO, List.nil_append, List.append_nil] at x1
    exact x1
  have hH3 : HH 3 = HH 2 := (opD_stays x2 m2).1
  rw [hH3] at x3
  have hx3 : ∃ z sz, zeroT P (match P.underlying T with | some (.slice e) => e | _ => 0) = some z ∧ V 3 = .sl (some ((HH 2).next, 0, sz + 1)) 1 1 true ∧ HH 4 = (HH 2).new (.rows false (sz + 1) [((E 3).getD t2 undefD).cells]) ∧
      ∀ env (H : DH), env.getD t2 undefD = (E 3).getD t2 undefD → opD P cf o3 env H = some (.sl (some (H.next, 0, sz + 1)) 1 1 true, H.new (.rows false (sz + 1) [((E 3).getD t2 undefD).cells])) := by
    have key : ∀ env (H : DH), opD P cf o3 env H = buildSliceD P T 1 H [(0, env.getD t2 undefD)] := by
      intro env H
      simp only [opD, h3, mover, moveD, evParts, evalO, if_true]
    rw [key] at x3
    unfold buildSliceD at x3
    split at x3
    · rename_i e hu
      split at x3
      · rename_i z sz hz hs
        split at x3
        · rename_i hc
          cases hb : buildRows (sz + 1) (zerosD z.cells 1) [(0, (E 3).getD t2 undefD)] with
          | none => rw [hb] at x3; cases x3
          | some rs =>
            rw [hb] at x3
            have hrs := buildRows_one hb
            subst hrs
            simp only [Option.map_some, Option.some.injEq, Prod.mk.injEq] at x3
            refine ⟨z, sz, by rw [hu]; exact hz, x3.1.symm, x3.2.symm, fun env H hd => ?_⟩
            rw [key, hd]
            unfold buildSliceD
            simp only [hu, hz, hs]
            rw [if_pos hc, hb]
            rfl
        · cases x3
      · cases x3
    · cases x3
  obtain ⟨z, sz, _, hV3, hH4, k3⟩ := hx3
  -- the slots
  have hA := ha.drew
  rw [← hh0] at hA
  have hEnv : EnvR ρ (E 0) a.tmps := by rw [he0]; exact he
  have v0r : VR ρ (V 0) (a.tmps.getD p undef) := by rw [hV0]; exact hEnv.get p
  generalize hv0 : a.tmps.getD p undef = v0 at v0r
  generalize hwd : ({ w with drawn := w.drawn + 1 } : World) = wd at hA
  have hm0 : Moves ρ (HH 0) w ρ (HH 0) wd := by rw [hh0, ← hwd]; exact Moves.drew ha
  have env1 : EnvR ρ (E 1) (a.put (some t0) v0).tmps := by rw [e1]; exact hEnv.putD v0r (some t0)
  have comm : ∀ (a : Act) {x y : Tmp} (v u : Value), x ≠ y → (a.put (some x) v).put (some y) u = (a.put (some y) u).put (some x) v := fun a x y v u h => Act.put_comm a v u (fun d h1 h2 => by cases h1; cases h2; exact h rfl)
  -- all but the last two
  have fin : ∀ v1 v2 v3 ρ' w', VR ρ' (V 1) v1 → VR ρ' (V 2) v2 → VR ρ' (V 3) v3 → Moves ρ (HH 0) wd ρ' (HH 4) w' →
      wpAny P .any #[o0, o1, o2, o3, o4, o5] Q 2 #[true, true, true, true, false, false] ((((a.put (some t0) v0).put (some t1) v1).put (some t2) v2).put (some t3) v3) w' := by
    intro v1 v2 v3 ρ' w' q1 q2 q3 hm
    have env4 : EnvR ρ' (E 4) ((((a.put (some t0) v0).put (some t1) v1).put (some t2) v2).put (some t3) v3).tmps := by
      rw [e4, e3, e2]
      exact ((((env1.mono hm.le).putD q1 (some t1)).putD q2 (some t2)).putD q3 (some t3))
    refine ⟨fun h => (by rw [r111100] at h; cases h), ?_⟩
    rw [r111100]
    intro i hi
    simp only [List.mem_singleton] at hi
    subst hi
    refine opW rfl g4 hcf x4 env4 hm.agree fun v4 w4 ρ4 q4 hm4 => ?_
    refine ⟨fun h => ?_, ?_⟩
    · exfalso
      have : Region.ready .any #[o0, o1, o2, o3, o4, o5] #[true, true, true, true, true, false] = [] := h
      rw [r111110] at this; cases this
    have r : Region.ready .any #[o0, o1, o2, o3, o4, o5] (#[true, true, true, true, false, false].setIfInBounds 4 true) = [5] := r111110
    rw [r]
    intro i hi
    simp only [List.mem_singleton] at hi
    subst hi
    have env5 := (env4.mono hm4.le).putD q4 o4.dst
    rw [← e5] at env5
    refine opW rfl g5 hcf x5 env5 hm4.agree fun v5 w5 ρ5 q5 hm5 => ?_
    refine ⟨r111111, hq ρ5 _ w5 ?_ ?_ ?_⟩
    · rw [← hen]
      show EnvR ρ5 (E 6) _
      rw [e6]
      exact (env5.mono hm5.le).putD q5 o5.dst
    · simp only [put_defers]; exact hd
    · rw [← hhn]
      have := (hm0.trans hm).trans (hm4.trans hm5)
      rw [hh0] at this
      exact this
  have rl : ∀ {i : Nat} {l : List Nat} {n : Nat} {L : Array Bool} {a : Act} {w : World}, Region.ready .any #[o0, o1, o2, o3, o4, o5] L = l → l ≠ [] → (∀ i ∈ l, wpOp P #[o0, o1, o2, o3, o4, o5] Q i (wpAny P .any #[o0, o1, o2, o3, o4, o5] Q n (L.setIfInBounds i true)) a w) → wpAny P .any #[o0, o1, o2, o3, o4, o5] Q (n + 1) L a w := by
    intro i l n L a w h hne k
    exact wpAny_all h hne k
  have x3' : opD P cf o3 (E 3) (HH 2) = some (V 3, HH 4) := by rw [hV3, hH4]; exact k3 _ _ rfl
  -- the call is done, what is loaded is to come
  have s111000 : ∀ v1 v2 ρ' w', VR ρ' (V 1) v1 → VR ρ' (V 2) v2 → Moves ρ (HH 0) wd ρ' (HH 2) w' →
      wpAny P .any #[o0, o1, o2, o3, o4, o5] Q 3 #[true, true, true, false, false, false] (((a.put (some t0) v0).put (some t1) v1).put (some t2) v2) w' := by
    intro v1 v2 ρ' w' q1 q2 hm
    refine wpAny_all r111000 (by simp) ?_
    intro i hi
    simp only [List.mem_singleton] at hi
    subst hi
    have env3 : EnvR ρ' (E 3) (((a.put (some t0) v0).put (some t1) v1).put (some t2) v2).tmps := by
      rw [e3, e2]
      exact (((env1.mono hm.le).putD q1 (some t1)).putD q2 (some t2))
    refine opW rfl g3 hcf x3' env3 hm.agree fun v3 w3 ρ3 q3 hm3 => ?_
    rw [d3]
    exact fin v1 v2 v3 ρ3 w3 (VR.mono hm3.le _ _ q1) (VR.mono hm3.le _ _ q2) q3 (hm.trans hm3)
  -- the slice has been built, the call is to come
  have s101100 : ∀ ρi v2 v3 pl w', VR ρi (V 2) v2 → Moves ρ (HH 0) wd ρi (HH 0) w' → wd.heap.size ≤ pl.block → Floats ρi (HH 0) w' pl (.rows false (sz + 1) [((E 3).getD t2 undefD).cells]) →
      (∀ ρ' l, ρ' l = some pl → VR ρ' (.sl (some (l, 0, sz + 1)) 1 1 true) v3) →
      wpAny P .any #[o0, o1, o2, o3, o4, o5] Q 3 #[true, false, true, true, false, false] (((a.put (some t0) v0).put (some t2) v2).put (some t3) v3) w' := by
    intro ρi v2 v3 pl w' q2 hm hb hf q3
    refine wpAny_all r101100 (by simp) ?_
    intro i hi
    simp only [List.mem_singleton] at hi
    subst hi
    refine callW rfl g1 hcf h1 c1 (ρ := ρi) ?_ hm.agree fun v1 w1 ρ1 q1 hm1 => ?_
    · rw [getD_put n03, getD_put n02]
      exact (env1.mono hm.le).get t0
    · rw [d1, comm _ v3 v1 (Ne.symm n13), comm _ v2 v1 (Ne.symm n12)]
      have hmv := hf.moves hm hb hm1 rfl
      rw [← hH4] at hmv
      refine fin v1 v2 v3 _ w1 (VR.mono (Rho.le_add hm1.agree _) _ _ q1) (VR.mono (Rho.le_trans hm1.le (Rho.le_add hm1.agree _)) _ _ q2) ?_ hmv
      rw [hV3]
      exact q3 _ _ (Rho.add_same _ _ _)
  -- what the slice is, built ahead of the call
  have build : ∀ (ρi : Rho) (env : List DV) (a' : Act) (w' : World) (K : Act → World → Prop) (v2 : Value), EnvR ρi env a'.tmps → Agree ρi (HH 0) w' → Moves ρ (HH 0) wd ρi (HH 0) w' → env.getD t2 undefD = (E 3).getD t2 undefD → 
      (∀ v3 pl w3, Moves ρ (HH 0) wd ρi (HH 0) w3 → wd.heap.size ≤ pl.block → Floats ρi (HH 0) w3 pl (.rows false (sz + 1) [((E 3).getD t2 undefD).cells]) → (∀ ρ' l, ρ' l = some pl → VR ρ' (.sl (some (l, 0, sz + 1)) 1 1 true) v3) → K (a'.put (some t3) v3) w3) →
      wpOp P #[o0, o1, o2, o3, o4, o5] Q 3 K a' w' := by
    intro ρi env a' w' K v2 henv hag hm hget hk
    refine opW rfl g3 hcf (k3 env (HH 0) hget) henv hag fun v3 w3 ρ3 q3 hm3 => ?_
    obtain ⟨pl, hpl, hb, hf, hmd⟩ := floats_of hag hm3 rfl (fun pl b h => by
      rw [← hget] at h ⊢
      exact rows1_narrow hm3.le (henv.get t2) h)
    rw [d3]
    refine hk v3 pl w3 (hm.trans hmd) (Nat.le_trans hm.size hb) hf fun ρ' l hl => ?_
    simp only [VR] at q3 ⊢
    obtain ⟨pl', a3, c', h4, h5⟩ := q3
    rw [hpl] at h4; cases h4
    exact ⟨pl, a3, c', hl, h5⟩
  have l3 : (E 3).getD t2 undefD = ((E 2).set t2 (V 2)).getD t2 undefD := by rw [e3]
  -- 0 and 2 are done
  have s101000 : ∀ ρi v2 w', VR ρi (V 2) v2 → Moves ρ (HH 0) wd ρi (HH 0) w' →
      wpAny P .any #[o0, o1, o2, o3, o4, o5] Q 4 #[true, false, true, false, false, false] ((a.put (some t0) v0).put (some t2) v2) w' := by
    intro ρi v2 w' q2 hm
    refine wpAny_all r101000 (by simp) ?_
    intro i hi
    simp only [List.mem_cons, List.not_mem_nil, or_false] at hi
    rcases hi with rfl | rfl
    · refine callW rfl g1 hcf h1 c1 (ρ := ρi) ?_ hm.agree fun v1 w1 ρ1 q1 hm1 => ?_
      · rw [getD_put n02]
        exact (env1.mono hm.le).get t0
      · rw [d1, comm _ v2 v1 (Ne.symm n12)]
        exact s111000 v1 v2 ρ1 w1 q1 (VR.mono hm1.le _ _ q2) (hm.trans hm1)
    · refine build ρi ((E 1).set t2 (V 2)) _ w' _ v2 ((env1.mono hm.le).putD q2 (some t2)) hm.agree hm (by rw [l3]; exact set_getD (by omega)) fun v3 pl w3 hm3 hb hf q3 => ?_
      exact s101100 ρi v2 v3 pl w3 q2 hm3 hb hf q3
  -- 2 and 3 are done
  have s001100 : ∀ ρi v2 v3 pl w', VR ρi (V 2) v2 → Moves ρ (HH 0) wd ρi (HH 0) w' → wd.heap.size ≤ pl.block → Floats ρi (HH 0) w' pl (.rows false (sz + 1) [((E 3).getD t2 undefD).cells]) →
      (∀ ρ' l, ρ' l = some pl → VR ρ' (.sl (some (l, 0, sz + 1)) 1 1 true) v3) →
      wpAny P .any #[o0, o1, o2, o3, o4, o5] Q 4 #[false, false, true, true, false, false] ((a.put (some t2) v2).put (some t3) v3) w' := by
    intro ρi v2 v3 pl w' q2 hm hb hf q3
    refine wpAny_all r001100 (by simp) ?_
    intro i hi
    simp only [List.mem_singleton] at hi
    subst hi
    refine mvW rfl g0 h0 ?_
    rw [getD_put np3, getD_put np2, hv0, d0, comm _ v3 v0 (Ne.symm n03), comm _ v2 v0 (Ne.symm n02)]
    exact s101100 ρi v2 v3 pl w' q2 hm hb hf q3
  -- 2 is done
  have s001000 : ∀ ρi v2 w', VR ρi (V 2) v2 → Moves ρ (HH 0) wd ρi (HH 0) w' →
      wpAny P .any #[o0, o1, o2, o3, o4, o5] Q 5 #[false, false, true, false, false, false] (a.put (some t2) v2) w' := by
    intro ρi v2 w' q2 hm
    refine wpAny_all r001000 (by simp) ?_
    intro i hi
    simp only [List.mem_cons, List.not_mem_nil, or_false] at hi
    rcases hi with rfl | rfl
    · refine mvW rfl g0 h0 ?_
      rw [getD_put np2, hv0, d0, comm _ v2 v0 (Ne.symm n02)]
      exact s101000 ρi v2 w' q2 hm
    · refine build ρi ((E 0).set t2 (V 2)) _ w' _ v2 ((hEnv.mono hm.le).putD q2 (some t2)) hm.agree hm (by rw [l3]; exact set_getD (by omega)) fun v3 pl w3 hm3 hb hf q3 => ?_
      exact s001100 ρi v2 v3 pl w3 q2 hm3 hb hf q3
  -- what is loaded, whatever was done
  have hb0 : ∀ env, env.getD b undefD = (E 0).getD b undefD → opD P cf o2 env (HH 0) = some (V 2, HH 0) := by
    intro env hg
    refine opD_read m2 rd2 ?_
    rw [← y2]
    simp only [readD, h2, evalO, e2, e1]
    rw [hg]
    simp only [List.getD, List.getElem?_set]
    rw [if_neg (fun e => nb1 e.symm), if_neg (fun e => nb0 e.symm)]
  have s110000 : ∀ v1 ρ' w', VR ρ' (V 1) v1 → Moves ρ (HH 0) wd ρ' (HH 2) w' →
      wpAny P .any #[o0, o1, o2, o3, o4, o5] Q 4 #[true, true, false, false, false, false] ((a.put (some t0) v0).put (some t1) v1) w' := by
    intro v1 ρ' w' q1 hm
    refine wpAny_all r110000 (by simp) ?_
    intro i hi
    simp only [List.mem_singleton] at hi
    subst hi
    have env2 : EnvR ρ' (E 2) ((a.put (some t0) v0).put (some t1) v1).tmps := by
      rw [e2]
      exact (env1.mono hm.le).putD q1 (some t1)
    refine opW rfl g2 hcf x2 env2 hm.agree fun v2 w2 ρ2 q2 hm2 => ?_
    rw [hH3] at hm2
    rw [d2]
    exact s111000 v1 v2 ρ2 w2 (VR.mono hm2.le _ _ q1) q2 (hm.trans hm2)
  have s100000 : wpAny P .any #[o0, o1, o2, o3, o4, o5] Q 5 #[true, false, false, false, false, false] (a.put (some t0) v0) wd := by
    refine wpAny_all r100000 (by simp) ?_
    intro i hi
    simp only [List.mem_cons, List.not_mem_nil, or_false] at hi
    rcases hi with rfl | rfl
    · refine callW rfl g1 hcf h1 c1 (ρ := ρ) (env1.get t0) hA fun v1 w1 ρ1 q1 hm1 => ?_
      rw [d1]
      exact s110000 v1 ρ1 w1 q1 hm1
    · refine opW rfl g2 hcf (hb0 (E 1) ?_) env1 hA fun v2 w2 ρ2 q2 hm2 => ?_
      · rw [e1]
        simp only [List.getD, List.getElem?_set]
        rw [if_neg (fun e => nb0 e.symm)]
      · rw [d2]
        exact s101000 ρ2 v2 w2 q2 hm2
  have : wpAny P .any #[o0, o1, o2, o3, o4, o5] Q 6 #[false, false, false, false, false, false] a wd := by
    refine wpAny_all r000000 (by simp) ?_
    intro i hi
    simp only [List.mem_cons, List.not_mem_nil, or_false] at hi
    rcases hi with rfl | rfl
    · refine mvW rfl g0 h0 ?_
      rw [hv0, d0]
      exact s100000
    · refine opW rfl g2 hcf (hb0 (E 0) rfl) hEnv hA fun v2 w2 ρ2 q2 hm2 => ?_
      rw [d2]
      exact s001000 ρ2 v2 w2 q2 hm2
  exact this
theorem progOk_of2 {L S : List FuncId} {E : List (FuncId × (List DV → DH → Option (DV × DH)))} (hmix : P.follows .mixedOrders = true) (hL : L.all (fun f => okB P f || S.contains f) = true)
    (hS : ∀ f ∈ S, ∀ fn c, P.funcs[f]? = some fn → fn.body = some c → (fn.name == "runtime.NumGoroutine") = false ∧ CodeOk P c) (hE : ∀ f g, (f, g) ∈ E → ExtSound P g f) : ProgOk P (Xof L E) where
  mix := hmix
  body := fun f fn c hx hf hb => by
    by_cases hs : S.contains f = true
    · exact hS f (List.contains_iff_mem.mp hs) fn c hf hb
    · unfold Xof at hx
      split at hx
      · cases hx
      · split at hx
        · rename_i hc
          have := List.all_eq_true.mp hL f (List.contains_iff_mem.mp hc)
          rw [Bool.or_eq_true] at this
          have := this.resolve_right hs
          unfold okB at this
          rw [hf] at this
          simp only [hb, Bool.and_eq_true, Bool.not_eq_true'] at this
          exact ⟨this.1, codeOk_spec hmix this.2⟩
        · cases hx
  ext := fun f g hx => by
    have h0 := (progOk_of (L := []) (E := E) hmix rfl hE).ext f
    unfold Xof at hx h0
    split at hx
    · rename_i g' hg
      rw [hg] at h0
      exact h0 g (by rw [← hx])
    · split at hx
      · cases hx
      · cases hx; exact ext_nothing f
end
end Go.Det

/- More operations: what is left of a division. -/
namespace Go.Det
set_option linter.unusedVariables false
set_option linter.unusedSimpArgs false
section
variable {P : Program} {H : DH}
theorem opD_rem {cf : CallF} {o : Oper} {t u : TypeId} {x y : Operand} (ho : o.op = .binOp .rem t x y u) {env : List DV} {k : IntKind} {a b v : Int} (hx : evalO env x = some (.int k a)) (hy : evalO env y = some (.int k b)) (hb : b ≠ 0) (hv : a.tmod b = v) : opD P cf o env H = some (.int k v, H) := by
  simp only [opD, ho, mover, reader, pureD, hx, hy, binD, arithD, if_true]
  rw [if_neg hb, hv]
  rfl
/-- Arithmetic whose value is told. -/
theorem opD_int {cf : CallF} {o : Oper} {op : BinOp} {t u : TypeId} {x y : Operand} (ho : o.op = .binOp op t x y u) {env : List DV} {k : IntKind} {a b : Int} {v w : DV} (hx : evalO env x = some (.int k a)) (hy : evalO env y = some (.int k b)) (hv : binD P op t (.int k a) (.int k b) = some v) (hw : v = w) : opD P cf o env H = some (w, H) := by
  subst hw
  simp only [opD, ho, mover, reader, pureD, hx, hy, hv]
  rfl
theorem all_and {bi : Nat} {seen : List Seen} {B : Prop} (h : stillAll P bi seen H = true) (k : B) : stillAll P bi seen H = true ∧ B := ⟨h, k⟩
theorem was_and {bi : Nat} {was : List Was} {s : Seen} {B : Prop} (h : stillWas P bi was s = true) (k : B) : stillWas P bi was s = true ∧ B := ⟨h, k⟩
theorem tand {B : Prop} (k : B) : True ∧ B := ⟨trivial, k⟩
theorem mine_of {A H : DH} {z n loc : Nat} {ex : Bool} {R : List (List DV)} (hn : R.length = n) (h1 : A.next ≤ loc) (h2 : loc < H.next) (h3 : H.obj loc = some (.rows false z R)) : Mine A H z R (.sl (some (loc, 0, z)) n n ex) := by
  subst hn; exact .at h1 h2 h3
/-! ### results, some of them in cells -/
theorem loadD_at {t : TypeId} {v : DV} {l i q sz : Nat} {ro : Bool} {rs : List (List DV)} {r : List DV} {d : DV} (hp : d = .ptr (some (l, i, q))) (ho : H.obj l = some (.rows ro sz rs)) (hr : rs[i]? = some r) (hv : partD P t r q = some v) : loadD P t H d = some v := by
  subst hp
  simp only [loadD, ho, hr, hv]
theorem resOf_c {a : Tmp} {t : TypeId} {env : List DV} {v : DV} (h : loadD P t H (env.getD a undefD) = some v) : resOf P [.cell a t] env H = some v := by
  simp only [resOf, List.map_cons, List.map_nil, h]
theorem resOf_ct {a b : Tmp} {t : TypeId} {env : List DV} {v : DV} (h : loadD P t H (env.getD a undefD) = some v) : resOf P [.cell a t, .tmp b] env H = some (.tuple [v, env.getD b undefD]) := by
  simp only [resOf, List.map_cons, List.map_nil, h]
  rfl
theorem resOf_ctt {a b c : Tmp} {t : TypeId} {env : List DV} {v : DV} (h : loadD P t H (env.getD a undefD) = some v) : resOf P [.cell a t, .tmp b, .tmp c] env H = some (.tuple [v, env.getD b undefD, env.getD c undefD]) := by
  simp only [resOf, List.map_cons, List.map_nil, h]
  rfl
theorem resOf_cct {a b c : Tmp} {t u : TypeId} {env : List DV} {v w : DV} (h : loadD P t H (env.getD a undefD) = some v) (k : loadD P u H (env.getD b undefD) = some w) : resOf P [.cell a t, .cell b u, .tmp c] env H = some (.tuple [v, w, env.getD c undefD]) := by
  simp only [resOf, List.map_cons, List.map_nil, h, k]
  rfl
section
variable {X : Ext} {all : Array Oper} {bef : Array Nat} {b i : Nat} {Φ : DH → Prop} {o : Oper} {r : List Oper} {st : DSt} {K : DSt → Prop}
theorem drawp_sync_st (Ψ : DH → Prop) {t : TypeId} {a x : Operand} (ho : o.op = .store t a x) (hw : Region.wanted o (dyield all st.env) = true) (hb : allBits i (bef.getD i 0) = true)
    (h : OpWp P X o st.env st.H (fun v H => Ψ H ∧ DrawP P X all bef (i + 1) Ψ (i + 1) r ⟨putD st.env o.dst v, H⟩ K)) : DrawP P X all bef b Φ i (o :: r) st K :=
  drawp_sync Ψ hw (by rw [ho]; rfl) hb h
theorem drawp_pick_t (hw : Region.wanted o (dyield all st.env) = true) {c x y : Operand} (ho : o.op = .pick c x y) {t : Bool} (hc : evalO st.env c = some (.bool t)) (hb : t = true) {v : DV} (hv : evalO st.env x = some v)
    (h : DrawP P X all bef b Φ (i + 1) r ⟨putD st.env o.dst v, st.H⟩ K) : DrawP P X all bef b Φ i (o :: r) st K :=
  drawp_pure hw (by rw [ho]; rfl) (by rw [ho]; rfl) (v := v) (by
    subst hb
    simp only [opD, ho, mover, reader, pureD, hc, hv]
    rfl) h
theorem drawp_pick_f (hw : Region.wanted o (dyield all st.env) = true) {c x y : Operand} (ho : o.op = .pick c x y) {t : Bool} (hc : evalO st.env c = some (.bool t)) (hb : t = false) {v : DV} (hv : evalO st.env y = some v)
    (h : DrawP P X all bef b Φ (i + 1) r ⟨putD st.env o.dst v, st.H⟩ K) : DrawP P X all bef b Φ i (o :: r) st K :=
  drawp_pure hw (by rw [ho]; rfl) (by rw [ho]; rfl) (v := v) (by
    subst hb
    simp only [opD, ho, mover, reader, pureD, hc, hv]
    rfl) h
end
end
end Go.Det
