/- What a call is handed: bools, whole numbers, strings, slices, structs, arrays, at whatever depth: as values and read-only rows of the deterministic reading. -/
import Derived.Carry
import Derived.OpenShut
import Derived.ChangeOld
import Derived.DataReads
import Derived.SizedLaws
import Derived.ProofKit
import Derived.Test.YtphnddoneocfhaaHears6
namespace Go.Det
set_option linter.unusedVariables false
set_option linter.unusedSimpArgs false
section
variable {P : Program} {A : Type} {enc : TypeId × Value → A} {W : World}
/-- A row of cells is one of a type. -/
inductive Typed (P : Program) (H : DH) : TypeId → List DV → Prop
  | bool {t : TypeId} {b : Bool} : P.underlying t = some .bool → Typed P H t [.bool b]
  | int {t : TypeId} {k : IntKind} {n : Int} : P.underlying t = some (.int k) → (Lit.int k n).wf = true → Typed P H t [.int k n]
  | str {t : TypeId} {s : List UInt8} : P.underlying t = some .string → s.length ≤ maxLen → Typed P H t [.str s]
  | nil {t e : TypeId} : P.underlying t = some (.slice e) → Typed P H t [.sl none 0 0 true]
  | slice {t e : TypeId} {l n : Nat} {rs : List (List DV)} : P.underlying t = some (.slice e) → H.obj l = some (.rows true (P.cellsOf e) rs) → n ≤ rs.length → rs.length ≤ maxLen →
      (∀ (i : Nat) (r : List DV), rs[i]? = some r → Typed P H e r) → Typed P H t [.sl (some (l, 0, P.cellsOf e)) n rs.length true]
  | struct {t : TypeId} {fs : Array Field} {cs : List DV} : P.underlying t = some (.struct fs) → cs.length = P.cellsOf t → (∀ f ∈ fs.toList, Typed P H f.type ((cs.drop f.offset).take (P.cellsOf f.type))) → Typed P H t cs
  | array {t e : TypeId} {m : Nat} {cs : List DV} : P.underlying t = some (.array m e) → cs.length = m * P.cellsOf e → (∀ i, i < m → Typed P H e ((cs.drop (i * P.cellsOf e)).take (P.cellsOf e))) → Typed P H t cs
theorem Typed.mono {H H' : DH} (h : ∀ l o, H.obj l = some o → H'.obj l = some o) {t : TypeId} {cs : List DV} (k : Typed P H t cs) : Typed P H' t cs := by
  induction k with
  | bool a => exact .bool a
  | int a b => exact .int a b
  | str a b => exact .str a b
  | nil a => exact .nil a
  | slice a b c d _ ih => exact .slice a (h _ _ b) c d ih
  | struct a b _ ih => exact .struct a b ih
  | array a b _ ih => exact .array a b ih
def tiles (P : Program) : List Field → Nat → Nat → Bool
  | [], off, size => off == size
  | f :: r, off, size => f.offset == off && tiles P r (off + P.cellsOf f.type) size
/-- The types that are read so. -/
def okTy (P : Program) : Nat → TypeId → Bool
  | 0, _ => false
  | n + 1, t => match P.underlying t with
    | some .bool | some (.int _) | some .string => true
    | some (.slice e) => P.cellsOf e != 0 && okTy P n e
    | some (.struct fs) => tiles P fs.toList 0 (P.cellsOf t) && fs.toList.all fun f => okTy P n f.type
    | some (.array m e) => P.cellsOf t == m * P.cellsOf e && okTy P n e
    | _ => false
theorem tiles_le : ∀ (l : List Field) (off size : Nat), tiles P l off size = true → off ≤ size
  | [], off, size, h => by simp [tiles] at h; omega
  | f :: r, off, size, h => by
    simp only [tiles, Bool.and_eq_true] at h
    have := tiles_le r _ _ h.2
    omega
theorem tiles_off : ∀ (l : List Field) (off size : Nat), tiles P l off size = true → ∀ f ∈ l, off ≤ f.offset
  | [], off, size, h, f, hf => by cases hf
  | g :: r, off, size, h, f, hf => by
    simp only [tiles, Bool.and_eq_true, beq_iff_eq] at h
    rcases List.mem_cons.mp hf with rfl | hf
    · omega
    · have := tiles_off r _ _ h.2 f hf
      omega
/-- All rows are read-only. -/
def RO (H : DH) : Prop := ∀ l o, H.obj l = some o → o.ro = true
structure Grows (W : World) (ρ : Rho) (H : DH) (ρ' : Rho) (H' : DH) : Prop where
  le : ρ.le ρ'
  obj : ∀ l o, H.obj l = some o → H'.obj l = some o
  agree : Agree ρ' H' W
  ro : RO H'
theorem Grows.refl {ρ : Rho} {H : DH} (h : Agree ρ H W) (hr : RO H) : Grows W ρ H ρ H := ⟨Rho.le_refl _, fun _ _ h => h, h, hr⟩
theorem Grows.trans {ρ ρ1 ρ2 : Rho} {H H1 H2 : DH} (h : Grows W ρ H ρ1 H1) (k : Grows W ρ1 H1 ρ2 H2) : Grows W ρ H ρ2 H2 :=
  ⟨Rho.le_trans h.le k.le, fun l o e => k.obj l o (h.obj l o e), k.agree, k.ro⟩
/-- Where there is a slice there is a block. -/
def Room (W : World) (cs : List Value) : Prop := ∀ a n c, Value.slice (some a) n c ∈ cs → 0 < W.heap.size
theorem Room.of {cs cs' : List Value} (h : Room W cs) (hs : ∀ v ∈ cs', v ∈ cs) : Room W cs' := fun a n c hm => h a n c (hs _ hm)
/-- What one reading gives. -/
def InOk (enc : TypeId × Value → A) (P : Program) (W : World) (fuel : Nat) (n : Nat) : Prop :=
  ∀ t cs x, DataW.trod enc P W 0 (fun _ => true) true fuel t cs = some x → okTy P n t = true → Room W cs → ∀ ρ H, Agree ρ H W → RO H →
    ∃ ρ' H' ds, Grows W ρ H ρ' H' ∧ VRs ρ' ds cs ∧ ds.all DV.one = true ∧ Typed P H' t ds
theorem fields_in {fuel n : Nat} (ih : InOk enc P W fuel n) {cs : List Value} {size : Nat} (hl : cs.length = size) (hroom : Room W cs) : ∀ (l : List Field) (off : Nat), tiles P l off size = true → (∀ f ∈ l, ∃ x, DataW.trod enc P W 0 (fun _ => true) true fuel f.type ((cs.drop f.offset).take (P.cellsOf f.type)) = some x) →
    (l.all fun f => okTy P n f.type) = true → ∀ ρ H, Agree ρ H W → RO H →
    ∃ ρ' H' ds, Grows W ρ H ρ' H' ∧ VRs ρ' ds (cs.drop off) ∧ ds.all DV.one = true ∧ ∀ f ∈ l, Typed P H' f.type ((ds.drop (f.offset - off)).take (P.cellsOf f.type))
  | [], off, ht, _, _, ρ, H, ha, hr => by
    simp only [tiles, beq_iff_eq] at ht
    refine ⟨ρ, H, [], .refl ha hr, ?_, rfl, by simp⟩
    rw [List.drop_eq_nil_of_le (by omega)]
    exact .nil
  | f :: l, off, ht, hm, hok, ρ, H, ha, hr => by
    simp only [tiles, Bool.and_eq_true, beq_iff_eq] at ht
    simp only [List.all_cons, Bool.and_eq_true] at hok
    obtain ⟨rfl, ht2⟩ := ht
    obtain ⟨x, hx⟩ := hm f (by simp)
    obtain ⟨ρ1, H1, d1, g1, v1, o1, t1⟩ := ih _ _ _ hx hok.1 (hroom.of fun v hv => List.mem_of_mem_drop (List.mem_of_mem_take hv)) ρ H ha hr
    obtain ⟨ρ2, H2, d2, g2, v2, o2, t2⟩ := fields_in ih hl hroom l (f.offset + P.cellsOf f.type) ht2 (fun g hg => hm g (by simp [hg])) hok.2 ρ1 H1 g1.agree g1.ro
    have hle := tiles_le _ _ _ ht2
    have hlen : d1.length = P.cellsOf f.type := by
      have := VRs.length v1
      rw [List.length_take, List.length_drop] at this
      omega
    refine ⟨ρ2, H2, d1 ++ d2, g1.trans g2, ?_, by simp [o1, o2], fun g hg => ?_⟩
    · have : cs.drop f.offset = (cs.drop f.offset).take (P.cellsOf f.type) ++ cs.drop (f.offset + P.cellsOf f.type) := by
        rw [← List.drop_drop, List.take_append_drop]
      rw [this]
      exact (VRs.mono g2.le _ _ v1).append v2
    · rcases List.mem_cons.mp hg with rfl | hg
      · rw [Nat.sub_self, List.drop_zero, List.take_left' hlen]
        exact t1.mono g2.obj
      · have ho := tiles_off _ _ _ ht2 g hg
        have e : g.offset - f.offset = d1.length + (g.offset - (f.offset + P.cellsOf f.type)) := by omega
        rw [e, List.drop_append, List.drop_eq_nil_of_le (by omega), List.nil_append, Nat.add_sub_cancel_left]
        exact t2 g hg
/-- Parts of one size, one behind the other: an array's. -/
theorem parts_in {fuel n : Nat} (ih : InOk enc P W fuel n) {e : TypeId} (hok : okTy P n e = true) {cs : List Value} (hroom : Room W cs) {m : Nat} (hl : cs.length = m * P.cellsOf e) (hall : ∀ i, i < m → ∃ x, DataW.trod enc P W 0 (fun _ => true) true fuel e ((cs.drop (i * P.cellsOf e)).take (P.cellsOf e)) = some x)
    {ρ : Rho} {H : DH} (ha : Agree ρ H W) (hr : RO H) : ∀ k, k ≤ m → ∃ ρ' H' ds, Grows W ρ H ρ' H' ∧ VRs ρ' ds (cs.take (k * P.cellsOf e)) ∧ ds.all DV.one = true ∧ ∀ i, i < k → Typed P H' e ((ds.drop (i * P.cellsOf e)).take (P.cellsOf e)) := by
  intro k
  induction k with
  | zero => intro _; exact ⟨ρ, H, [], .refl ha hr, by simpa using VRs.nil, rfl, fun i hi => by omega⟩
  | succ k ihk =>
    intro hk
    obtain ⟨ρ1, H1, d1, g1, v1, o1, t1⟩ := ihk (by omega)
    obtain ⟨x, hx⟩ := hall k (by omega)
    obtain ⟨ρ2, H2, d2, g2, v2, o2, t2⟩ := ih _ _ _ hx hok (hroom.of fun v hv => List.mem_of_mem_drop (List.mem_of_mem_take hv)) ρ1 H1 g1.agree g1.ro
    have hmul : k * P.cellsOf e + P.cellsOf e ≤ m * P.cellsOf e := by
      have : (k + 1) * P.cellsOf e ≤ m * P.cellsOf e := Nat.mul_le_mul_right _ hk
      rwa [Nat.succ_mul] at this
    have hd1 : d1.length = k * P.cellsOf e := by
      have := VRs.length v1
      rw [List.length_take] at this
      omega
    have hd2 : d2.length = P.cellsOf e := by
      have := VRs.length v2
      rw [List.length_take, List.length_drop] at this
      omega
    refine ⟨ρ2, H2, d1 ++ d2, g1.trans g2, ?_, by simp [o1, o2], fun i hi => ?_⟩
    · rw [Nat.succ_mul, List.take_add]
      exact (VRs.mono g2.le _ _ v1).append v2
    · by_cases e1 : i = k
      · subst e1
        rw [List.drop_left' hd1, List.take_of_length_le (by omega)]
        exact t2
      · have hik : i * P.cellsOf e + P.cellsOf e ≤ k * P.cellsOf e := by
          have : (i + 1) * P.cellsOf e ≤ k * P.cellsOf e := Nat.mul_le_mul_right _ (by omega)
          rwa [Nat.succ_mul] at this
        rw [List.drop_append_of_le_length (by omega), List.take_append_of_le_length (by rw [List.length_drop]; omega)]
        exact (t1 i (by omega)).mono g2.obj
theorem cell_spot {a : Addr} {v : Value} (h : W.cell? a = some v) : a.spot = none ∧ cellAt W.heap[a.block]? a.off = some v := by
  unfold World.cell? at h
  split at h
  · rename_i c t f hb
    split at h
    · cases h
    · rename_i hs
      refine ⟨by simpa using hs, ?_⟩
      rw [hb]
      exact h
  · cases h
theorem add_none (b o n : Nat) : (Addr.mk b o none).add n = ⟨b, o + n, none⟩ := by
  unfold Addr.add
  split
  · rename_i h; subst h; rfl
  · rfl
theorem rows_in {fuel n : Nat} (ih : InOk enc P W fuel n) {e : TypeId} (hok : okTy P n e = true) (hpos : 0 < W.heap.size) {a : Addr} {m : Nat}
    (hall : ∀ i, i < m → ∃ x, ((W.cells? 0 (a.add (i * P.cellsOf e)) (P.cellsOf e)).bind (DataW.trod enc P W 0 (fun _ => true) true fuel e)) = some x)
    {ρ : Rho} {H : DH} (ha : Agree ρ H W) (hr : RO H) : ∀ k, k ≤ m → ∃ (ρ' : Rho) (H' : DH) (rs : List (List DV)), Grows W ρ H ρ' H' ∧ rs.length = k ∧ ∀ (i : Nat) (r : List DV), rs[i]? = some r → r.all DV.one = true ∧ Typed P H' e r ∧ ∃ cs, W.cells? 0 (a.add (i * P.cellsOf e)) (P.cellsOf e) = some cs ∧ VRs ρ' r cs := by
  intro k
  induction k with
  | zero => intro _; exact ⟨ρ, H, [], .refl ha hr, rfl, fun i r h => by simp at h⟩
  | succ k ihk =>
    intro hk
    obtain ⟨ρ1, H1, rs, g1, l1, h1⟩ := ihk (by omega)
    obtain ⟨x, hx⟩ := hall k (by omega)
    cases hc : W.cells? 0 (a.add (k * P.cellsOf e)) (P.cellsOf e) with
    | none => rw [hc] at hx; simp at hx
    | some cs =>
      rw [hc] at hx
      simp only [Option.bind_some] at hx
      obtain ⟨ρ2, H2, d2, g2, v2, o2, t2⟩ := ih _ _ _ hx hok (fun _ _ _ _ => hpos) ρ1 H1 g1.agree g1.ro
      refine ⟨ρ2, H2, rs ++ [d2], g1.trans g2, by simp [l1], fun i r hi => ?_⟩
      rcases Nat.lt_or_ge i rs.length with hlt | hge
      · rw [List.getElem?_append_left hlt] at hi
        obtain ⟨a1, a2, cs', a3, a4⟩ := h1 i r hi
        exact ⟨a1, a2.mono g2.obj, cs', a3, VRs.mono g2.le _ _ a4⟩
      · rw [List.getElem?_append_right hge] at hi
        have hi0 : i - rs.length = 0 := by
          rcases Nat.eq_zero_or_pos (i - rs.length) with h | h
          · exact h
          · rw [List.getElem?_eq_none (by simp; omega)] at hi; cases hi
        rw [hi0] at hi
        simp at hi
        subst hi
        have : i = k := by omega
        subst this
        exact ⟨o2, t2, cs, hc, v2⟩
theorem Grows.row {ρ : Rho} {H : DH} (ha : Agree ρ H W) (hr : RO H) {pl : Pl} {rs : List (List DV)} (hlies : pl.block < W.heap.size) (hrs : rs.length ≤ pl.tot)
    (hrow : ∀ (i : Nat) (r : List DV), rs[i]? = some r → r.length = pl.sz ∧ ∀ (j : Nat) (d : DV), r[j]? = some d → CR ρ W.heap[pl.block]? (pl.off + i * pl.sz + j) d) :
    Grows W ρ H (fun m => if m = H.next then some pl else ρ m) (H.new (.rows true pl.sz rs)) := by
  have hle : ρ.le (fun m => if m = H.next then some pl else ρ m) := by
    intro l p h
    have := ha.low l p h
    show (if l = H.next then some pl else ρ l) = some p
    rw [if_neg (by omega)]
    exact h
  have hro : RO (H.new (.rows true pl.sz rs)) := by
    intro l o h
    simp only [DH.new] at h
    split at h
    · cases h; rfl
    · exact hr l o h
  have hobj : ∀ l o, H.obj l = some o → (H.new (.rows true pl.sz rs)).obj l = some o := by
    intro l o h
    obtain ⟨p, hp, _⟩ := ha.obj l o h
    have := ha.low l p hp
    simp only [DH.new]
    rw [if_neg (by omega)]
    exact h
  refine ⟨hle, hobj, ⟨?_, ?_, ?_, ?_⟩, hro⟩
  · intro l p h
    have h : (if l = H.next then some pl else ρ l) = some p := h
    simp only [DH.new]
    split at h
    · omega
    · have := ha.low l p h; omega
  · intro l p h
    have h : (if l = H.next then some pl else ρ l) = some p := h
    split at h
    · cases h; exact hlies
    · exact ha.lies l p h
  · intro l o h
    simp only [DH.new] at h
    split at h
    · rename_i hl
      cases h
      refine ⟨pl, by simp [hl], ?_⟩
      refine ⟨rfl, hrs, fun i r hi => ⟨(hrow i r hi).1, fun j d hd => ((hrow i r hi).2 j d hd).mono hle⟩, fun h => by cases h⟩
    · rename_i hl
      obtain ⟨p, hp, ho⟩ := ha.obj l o h
      exact ⟨p, hle l p hp, ho.mono hle⟩
  · intro l l' o o' p p' _ h _ hf
    rw [hro l o h] at hf
    cases hf
theorem trod_in : ∀ fuel n, InOk enc P W fuel n := by
  intro fuel
  induction fuel with
  | zero => intro n t cs x h; simp [DataW.trod] at h
  | succ fuel ih =>
    intro n t cs x h hok hroom ρ H ha hr
    cases n with
    | zero => simp [okTy] at hok
    | succ n =>
      cases hu : P.underlying t with
      | none => simp [okTy, hu] at hok
      | some d =>
        cases d with
        | bool =>
          obtain ⟨b, rfl, rfl⟩ := DataW.trod_bool hu h
          exact ⟨ρ, H, [.bool b], .refl ha hr, VRs.one (by simp [VR]), rfl, .bool hu⟩
        | int k =>
          obtain ⟨m, rfl, rfl, hw⟩ := DataW.trod_int hu h
          exact ⟨ρ, H, [.int k m], .refl ha hr, VRs.one (by simp [VR]), rfl, .int hu hw⟩
        | string =>
          obtain ⟨m, rfl, rfl, hw⟩ := DataW.trod_string hu h
          exact ⟨ρ, H, [.str m.data.toList], .refl ha hr, VRs.one (by simp [VR]), rfl, .str hu (by simpa using hw)⟩
        | slice e =>
          simp only [okTy, hu, Bool.and_eq_true, bne_iff_ne, ne_eq] at hok
          rcases DataW.trod_slice hu h with ⟨rfl, rfl⟩ | ⟨a, len, cap, elems, rest, m, hm, rfl, rfl, _, hl, hc, he, hel, hre, _⟩
          · exact ⟨ρ, H, [.sl none 0 0 true], .refl ha hr, VRs.one (by simp [VR]), rfl, .nil hu⟩
          · cases hm
            obtain ⟨hr1, hre⟩ := hre rfl
            have hpos := hroom a len cap (by simp)
            have hall : ∀ i, i < cap → ∃ x, ((W.cells? 0 (a.add (i * P.cellsOf e)) (P.cellsOf e)).bind (DataW.trod enc P W 0 (fun _ => true) true fuel e)) = some x := by
              intro i hi
              rcases Nat.lt_or_ge i len with h | h
              · exact ⟨elems[i], by rw [hel i h, List.getElem?_eq_getElem (by omega)]⟩
              · have := hre (i - len) (by omega)
                rw [show len + (i - len) = i by omega] at this
                exact ⟨rest[i - len]'(by omega), by rw [this, List.getElem?_eq_getElem (by omega)]⟩
            obtain ⟨ρ1, H1, rs, g1, l1, h1⟩ := rows_in (ih n) hok.2 hpos hall ha hr cap (Nat.le_refl _)
            have hspot : 0 < cap → a.spot = none := by
              intro hcap
              obtain ⟨r, hr0⟩ : ∃ r, rs[0]? = some r := ⟨rs[0]'(by omega), List.getElem?_eq_getElem (by omega)⟩
              obtain ⟨_, _, cs, hcs, _⟩ := h1 0 r hr0
              obtain ⟨_, h3, h4⟩ := World.cells?_some hcs
              have h5 := h4 0 (by omega)
              rw [List.getElem?_eq_getElem (by omega)] at h5
              simp only [Nat.zero_mul, Addr.add, if_true] at h5
              exact (cell_spot h5).1
            let pl : Pl := ⟨if cap = 0 then 0 else a.block, a.off, P.cellsOf e, cap⟩
            have hlies : pl.block < W.heap.size := by
              show (if cap = 0 then 0 else a.block) < _
              split
              · exact hpos
              · obtain ⟨r, hr0⟩ : ∃ r, rs[0]? = some r := ⟨rs[0]'(by omega), List.getElem?_eq_getElem (by omega)⟩
                obtain ⟨_, _, cs, hcs, _⟩ := h1 0 r hr0
                have := World.cells?_block hcs (by omega)
                simpa [Addr.add] using this
            have g2 := Grows.row (W := W) g1.agree g1.ro (pl := pl) (rs := rs) hlies (by show rs.length ≤ cap; omega) (by
              intro i r hi
              have hi' : i < cap := by
                have := (List.getElem?_eq_some_iff.mp hi).1
                omega
              obtain ⟨o1, t1, cs, hcs, v1⟩ := h1 i r hi
              obtain ⟨_, h3, h4⟩ := World.cells?_some hcs
              have hlen := VRs.length v1
              refine ⟨by show r.length = P.cellsOf e; omega, fun j d hd => ?_⟩
              have hj : j < r.length := (List.getElem?_eq_some_iff.mp hd).1
              obtain ⟨c, hc', hv⟩ := VRs.get j v1 hd
              have h5 := h4 j (by omega)
              rw [hc'] at h5
              have hs := hspot (by omega)
              obtain ⟨b, o, sp⟩ := a
              simp only at hs
              subst hs
              rw [add_none, add_none] at h5
              have h6 := (cell_spot h5).2
              refine ⟨List.all_eq_true.mp o1 d (List.mem_of_getElem? hd), c, ?_, hv⟩
              show cellAt W.heap[(if cap = 0 then 0 else b)]? (o + i * P.cellsOf e + j) = some c
              rw [if_neg (by omega)]
              exact h6)
            refine ⟨_, _, [.sl (some (H1.next, 0, P.cellsOf e)) len rs.length true], g1.trans g2, VRs.one ?_, rfl, ?_⟩
            · simp only [VR]
              refine ⟨pl, a, cap, by simp, rfl, rfl, by omega, by omega, fun _ => by omega, by show 0 + cap ≤ cap; omega, ?_⟩
              rcases Nat.eq_zero_or_pos cap with h | h
              · exact .inl h
              · right
                have hs := hspot h
                obtain ⟨b, o, sp⟩ := a
                simp only at hs
                subst hs
                show Addr.mk b o none = ⟨(if cap = 0 then 0 else b), o + 0 * P.cellsOf e + 0, none⟩
                rw [if_neg (by omega)]
                simp
            · exact .slice hu (by simp [DH.new]; rfl) (by omega) (by omega) fun i r hi => ((h1 i r hi).2.1).mono g2.obj
        | struct fs =>
          simp only [okTy, hu, Bool.and_eq_true] at hok
          obtain ⟨xs, m, hm, _, hlen, hxl, hxs⟩ := DataW.trod_struct hu h
          cases hm
          obtain ⟨ρ1, H1, ds, g1, v1, o1, t1⟩ := fields_in (ih n) hlen hroom fs.toList 0 hok.1 (by
            intro f hf
            obtain ⟨i, hi, he⟩ := List.getElem_of_mem hf
            have := hxs i f (by rw [← Array.getElem?_toList, List.getElem?_eq_getElem hi, he])
            have hi2 : i < xs.length := by simp at hi; omega
            exact ⟨xs[i], by rw [this, List.getElem?_eq_getElem hi2]⟩) hok.2 ρ H ha hr
          rw [List.drop_zero] at v1
          refine ⟨ρ1, H1, ds, g1, v1, o1, .struct hu (by have := VRs.length v1; omega) fun f hf => ?_⟩
          have := t1 f hf
          rwa [Nat.sub_zero] at this
        | array m e =>
          simp only [okTy, hu, Bool.and_eq_true, beq_iff_eq] at hok
          obtain ⟨xs, m', hm, _, hlen, hxl, hxs⟩ := DataW.trod_array hu h
          cases hm
          obtain ⟨ρ1, H1, ds, g1, v1, o1, t1⟩ := parts_in (ih n) hok.2 hroom (by rw [hlen, hok.1]) (by
            intro i hi
            exact ⟨xs[i]'(by omega), by rw [hxs i hi, List.getElem?_eq_getElem (by omega)]⟩) ha hr m (Nat.le_refl _)
          rw [← hok.1, ← hlen, List.take_length] at v1
          exact ⟨ρ1, H1, ds, g1, v1, o1, .array hu (by have := VRs.length v1; omega) t1⟩
        | _ => simp [okTy, hu] at hok
end
end Go.Det

/- A row out of what the deterministic reading comes to. -/
namespace Go.Det
set_option linter.unusedVariables false
set_option linter.unusedSimpArgs false
open Go.ChangeShapes Go.WideShapes Go.RowKit
section
variable {P : Program} {A : Type} {enc : TypeId × Value → A} {W : World}
/-- An argument. -/
def TArg (P : Program) (H : DH) (t : TypeId) (d : DV) : Prop :=
  match P.underlying t with
  | some (.struct _) | some (.array _ _) => ∃ ds, d = .agg ds ∧ Typed P H t ds
  | _ => Typed P H t [d]
def TArgs (P : Program) (H : DH) : List TypeId → List DV → Prop
  | [], [] => True
  | t :: ts, d :: ds => TArg P H t d ∧ TArgs P H ts ds
  | _, _ => False
theorem TArg.mono {H H' : DH} (h : ∀ l o, H.obj l = some o → H'.obj l = some o) {t : TypeId} {d : DV} (k : TArg P H t d) : TArg P H' t d := by
  unfold TArg at *
  cases hu : P.underlying t with
  | none => rw [hu] at k; exact Typed.mono h k
  | some d =>
    rw [hu] at k
    cases d <;> first
      | exact Typed.mono h k
      | (obtain ⟨ds, h1, h2⟩ := k; exact ⟨ds, h1, h2.mono h⟩)
theorem TArgs.mono {H H' : DH} (h : ∀ l o, H.obj l = some o → H'.obj l = some o) : ∀ {ts : List TypeId} {ds : List DV}, TArgs P H ts ds → TArgs P H' ts ds
  | [], [], _ => trivial
  | _ :: _, _ :: _, k => ⟨k.1.mono h, k.2.mono h⟩
  | [], _ :: _, k => k.elim
  | _ :: _, [], k => k.elim
theorem has_room {r : Reach} {b : Nat} {t : TypeId} {a : Addr} {n c : Nat} (h : Cell.okWide P W r b t (.slice (some a) n c)) : 0 < W.heap.size := by
  have h' : Cell.ok P W r b t (.slice (some a) n c) := by
    unfold Cell.okWide at h
    cases hu : P.underlying t with
    | none => rw [hu] at h; exact h
    | some d => rw [hu] at h; cases d <;> exact h
  unfold Cell.ok at h'
  cases hu : P.underlying t with
  | none => rw [hu] at h'; exact h'.elim
  | some d =>
    rw [hu] at h'
    cases d <;> try exact h'.elim
    obtain ⟨_, _, _, _, row, cells, hs, _⟩ := h'
    unfold World.shape? at hs
    split at hs
    · rename_i hb
      have := (Array.getElem?_eq_some_iff.mp hb).1
      omega
    · cases hs
theorem arg_in {b : Nat} {t : TypeId} {v : Value} {d : DataW A} {ps : List MemPlace} (hv : Value.okWide P W .any b t v) (h : DataW.Trod enc P W 0 (fun _ => true) true t v d ps) {n : Nat} (hok : okTy P n t = true) {ρ : Rho} {H : DH} (ha : Agree ρ H W) (hr : RO H) :
    ∃ ρ' H' x, Grows W ρ H ρ' H' ∧ VR ρ' x v ∧ TArg P H' t x := by
  obtain ⟨fuel, hf⟩ := h
  unfold Value.okWide at hv
  split at hv
  · rename_i fs hu
    obtain ⟨cs, rfl, hsz, ts, hts, _, hc⟩ := hv
    obtain ⟨ρ', H', ds, g, v1, o1, t1⟩ := trod_in fuel n t _ _ hf hok (by
      intro a m c hm
      obtain ⟨i, hi, he⟩ := List.getElem_of_mem hm
      have hi' : i < cs.size := by simpa [Value.cells] using hi
      obtain ⟨u, _, hu'⟩ := hc i (.slice (some a) m c) (by rw [Array.getElem?_eq_getElem hi']; congr 1)
      exact has_room hu') ρ H ha hr
    refine ⟨ρ', H', .agg ds, g, ?_, ?_⟩
    · simp only [VR]; exact ⟨o1, cs, rfl, v1⟩
    · unfold TArg; rw [hu]; exact ⟨ds, rfl, t1⟩
  · rename_i fs m hu
    obtain ⟨cs, rfl, hsz, ts, hts, _, hc⟩ := hv
    obtain ⟨ρ', H', ds, g, v1, o1, t1⟩ := trod_in fuel n t _ _ hf hok (by
      intro a m c hm
      obtain ⟨i, hi, he⟩ := List.getElem_of_mem hm
      have hi' : i < cs.size := by simpa [Value.cells] using hi
      obtain ⟨u, _, hu'⟩ := hc i (.slice (some a) m c) (by rw [Array.getElem?_eq_getElem hi']; congr 1)
      exact has_room hu') ρ H ha hr
    refine ⟨ρ', H', .agg ds, g, ?_, ?_⟩
    · simp only [VR]; exact ⟨o1, cs, rfl, v1⟩
    · unfold TArg; rw [hu]; exact ⟨ds, rfl, t1⟩
  · rename_i h1 h2
    have hcell : v.cells.toList = [v] := by
      cases v <;> try rfl
      exfalso
      unfold Cell.okWide Cell.ok at hv
      cases hu : P.underlying t with
      | none => rw [hu] at hv; exact hv
      | some d => rw [hu] at hv; cases d <;> exact hv
    rw [hcell] at hf
    obtain ⟨ρ', H', ds, g, v1, o1, t1⟩ := trod_in fuel n t _ _ hf hok (by
      intro a m c hm
      simp at hm
      rw [← hm] at hv
      exact has_room hv) ρ H ha hr
    have hl := VRs.length v1
    simp at hl
    obtain ⟨x, rfl⟩ := List.length_eq_one_iff.mp hl.symm
    refine ⟨ρ', H', x, g, by simpa [VRs] using v1, ?_⟩
    unfold TArg
    split
    · rename_i fs hu; exact absurd hu (h1 fs)
    · rename_i n m hu; exact absurd hu (h2 n m)
    · exact t1
theorem args_in {b n : Nat} : ∀ (ts : List TypeId) (vs : List Value) (ds : List (DataW A)) (ps : List MemPlace), (∀ (j : Nat) t v, ts[j]? = some t → vs[j]? = some v → Value.okWide P W .any b t v) → DataW.TrodAll enc P W 0 (fun _ => true) true ts vs ds ps → (ts.all fun t => okTy P n t) = true →
    ∀ {ρ : Rho} {H : DH}, Agree ρ H W → RO H → ∃ ρ' H' xs, Grows W ρ H ρ' H' ∧ VRs ρ' xs vs ∧ TArgs P H' ts xs
  | [], vs, ds, ps, hv, h, hok, ρ, H, ha, hr => by
    obtain ⟨rfl, rfl, rfl⟩ := trodAll_nil h
    exact ⟨ρ, H, [], .refl ha hr, .nil, trivial⟩
  | t :: ts, vs, ds, ps, hv, h, hok, ρ, H, ha, hr => by
    obtain ⟨v, vs', d, ds', p, q, rfl, rfl, rfl, h1, h2⟩ := trodAll_cons h
    simp only [List.all_cons, Bool.and_eq_true] at hok
    obtain ⟨ρ1, H1, x, g1, v1, t1⟩ := arg_in (hv 0 t v rfl rfl) h1 hok.1 ha hr
    obtain ⟨ρ2, H2, xs, g2, v2, t2⟩ := args_in ts vs' ds' q (fun j t' v' h3 h4 => hv (j + 1) t' v' (by simpa using h3) (by simpa using h4)) h2 hok.2 g1.agree g1.ro
    exact ⟨ρ2, H2, x :: xs, g1.trans g2, .cons (VR.mono g2.le _ _ v1) v2, t1.mono g2.obj, t2⟩
theorem empty_agree : Agree (fun _ => none) ⟨0, fun _ => none⟩ W where
  low := fun l p h => by cases h
  lies := fun l p h => by cases h
  obj := fun l o h => by cases h
  apart := fun l l' o o' p p' _ h => by cases h
/-- Nothing of what there was ahead of the call has changed. -/
theorem Moves.below {ρ ρ' : Rho} {H H' : DH} {w w' : World} (h : Moves ρ H w ρ' H' w') (hr : RO H) : Below w.heap.size w w' :=
  ⟨h.os, h.tape, h.output, h.size, fun k hk => h.same k hk fun ⟨l, o, _, ho, hf, _⟩ => by rw [hr l o ho] at hf; cases hf⟩
theorem trodAll_below (hl : laidOutB P = true) {W' : World} (hb : Below W.heap.size W W') : ∀ (ts : List TypeId) (vs : List Value) (ds : List (DataW A)) (ps : List MemPlace), (ts.all fun t => P.readableRec t && decide (t < P.types.size)) = true →
    DataW.TrodAll enc P W 0 (fun _ => true) true ts vs ds ps → ∃ ps', DataW.TrodAll enc P W' 0 (fun b => decide (b < W.heap.size)) true ts vs ds ps'
  | [], vs, ds, ps, _, h => by
    obtain ⟨rfl, rfl, rfl⟩ := trodAll_nil h
    exact ⟨[], trodAll_mk0⟩
  | t :: ts, vs, ds, ps, hr, h => by
    obtain ⟨v, vs', d, ds', p, q, rfl, rfl, rfl, h1, h2⟩ := trodAll_cons h
    simp only [List.all_cons, Bool.and_eq_true, decide_eq_true_eq] at hr
    obtain ⟨q', hq'⟩ := trodAll_below hl hb ts vs' ds' q (by simpa using hr.2) h2
    have hlt : ∀ x ∈ p, x.block < W.heap.size := by obtain ⟨m, hm⟩ := h1; exact DataW.trod_lt m _ _ _ hm
    exact ⟨p ++ q', trodAll_cons_mk (Below.trod hl hr.1.1 hr.1.2 h1 hb hlt) hq'⟩
end
end Go.Det

/- Functions told by a table: those whose answer leads to no place; more rounds tell the same. -/
namespace Go.Det
set_option linter.unusedVariables false
set_option linter.unusedSimpArgs false
/-! ### values that lead to no place -/
mutual
def DV.closed : DV → Bool
  | .ptr (some _) | .sl (some _) _ _ _ | .map (some _) => false
  | .func _ a c => DV.closeds a && DV.closeds c
  | .iface _ v => v.closed
  | .agg cs => DV.closeds cs
  | .tuple cs => DV.closeds cs
  | _ => true
def DV.closeds : List DV → Bool
  | [] => true
  | d :: r => d.closed && DV.closeds r
end
mutual
theorem VR.closed {ρ ρ' : Rho} : ∀ (d : DV) (v : Value), d.closed = true → VR ρ d v → VR ρ' d v
  | .bool _, v, _, h => by simpa [VR] using h
  | .int _ _, v, _, h => by simpa [VR] using h
  | .str _, v, _, h => by simpa [VR] using h
  | .ptr none, v, _, h => by simpa [VR] using h
  | .ptr (some _), v, hc, h => by simp [DV.closed] at hc
  | .sl none _ _ _, v, _, h => by simpa [VR] using h
  | .sl (some _) _ _ _, v, hc, h => by simp [DV.closed] at hc
  | .map none, v, _, h => by simpa [VR] using h
  | .map (some _), v, hc, h => by simp [DV.closed] at hc
  | .nilFunc, v, _, h => by simpa [VR] using h
  | .nilIface, v, _, h => by simpa [VR] using h
  | .func fn a c, v, hc, h => by
    simp only [DV.closed, Bool.and_eq_true] at hc
    simp only [VR] at h ⊢
    obtain ⟨x, y, h1, h2, h3⟩ := h
    exact ⟨x, y, h1, VRs.closed a _ hc.1 h2, VRs.closed c _ hc.2 h3⟩
  | .iface t x, v, hc, h => by
    simp only [DV.closed] at hc
    simp only [VR] at h ⊢
    obtain ⟨y, h1, h2⟩ := h
    exact ⟨y, h1, VR.closed x y hc h2⟩
  | .agg cs, v, hc, h => by
    simp only [DV.closed] at hc
    simp only [VR] at h ⊢
    obtain ⟨h0, y, h1, h2⟩ := h
    exact ⟨h0, y, h1, VRs.closed cs _ hc h2⟩
  | .tuple cs, v, hc, h => by
    simp only [DV.closed] at hc
    simp only [VR] at h ⊢
    obtain ⟨y, h1, h2⟩ := h
    exact ⟨y, h1, VRs.closed cs _ hc h2⟩
theorem VRs.closed {ρ ρ' : Rho} : ∀ (ds : List DV) (vs : List Value), DV.closeds ds = true → VRs ρ ds vs → VRs ρ' ds vs
  | [], vs, _, h => by simpa [VRs] using h
  | d :: ds, [], _, h => by simp [VRs] at h
  | d :: ds, v :: vs, hc, h => by
    simp only [DV.closeds, Bool.and_eq_true] at hc
    simp only [VRs] at h ⊢
    obtain ⟨a, b, e, h1, h2⟩ := h
    cases e
    exact ⟨_, _, rfl, VR.closed d _ hc.1 h1, VRs.closed ds _ hc.2 h2⟩
end
/-! ### what was there is told by the places that were there -/
mutual
theorem VR.narrow {ρ ρ' : Rho} (hle : ρ.le ρ') : ∀ (d : DV) (v u : Value), VR ρ d v → VR ρ' d u → VR ρ d u
  | .bool _, v, u, _, h => by simpa [VR] using h
  | .int _ _, v, u, _, h => by simpa [VR] using h
  | .str _, v, u, _, h => by simpa [VR] using h
  | .ptr none, v, u, _, h => by simpa [VR] using h
  | .ptr (some (l, i, o)), v, u, h0, h => by
    simp only [VR] at h0 h ⊢
    obtain ⟨pl, h1, _⟩ := h0
    obtain ⟨pl', h3, h4⟩ := h
    rw [hle _ _ h1] at h3; cases h3
    exact ⟨pl, h1, h4⟩
  | .sl none _ _ _, v, u, _, h => by simpa [VR] using h
  | .sl (some (l, i, z)) _ _ _, v, u, h0, h => by
    simp only [VR] at h0 h ⊢
    obtain ⟨pl, _, _, h1, _⟩ := h0
    obtain ⟨pl', a, c, h3, h4⟩ := h
    rw [hle _ _ h1] at h3; cases h3
    exact ⟨pl, a, c, h1, h4⟩
  | .map none, v, u, _, h => by simpa [VR] using h
  | .map (some l), v, u, h0, h => by
    simp only [VR] at h0 h ⊢
    obtain ⟨pl, h1, _⟩ := h0
    obtain ⟨pl', h3, h4⟩ := h
    rw [hle _ _ h1] at h3; cases h3
    exact ⟨pl, h1, h4⟩
  | .nilFunc, v, u, _, h => by simpa [VR] using h
  | .nilIface, v, u, _, h => by simpa [VR] using h
  | .func fn a c, v, u, h0, h => by
    simp only [VR] at h0 h ⊢
    obtain ⟨x, y, _, h2, h3⟩ := h0
    obtain ⟨x', y', h4, h5, h6⟩ := h
    exact ⟨x', y', h4, VRs.narrow hle a _ _ h2 h5, VRs.narrow hle c _ _ h3 h6⟩
  | .iface t x, v, u, h0, h => by
    simp only [VR] at h0 h ⊢
    obtain ⟨y, _, h2⟩ := h0
    obtain ⟨y', h3, h4⟩ := h
    exact ⟨y', h3, VR.narrow hle x _ _ h2 h4⟩
  | .agg cs, v, u, h0, h => by
    simp only [VR] at h0 h ⊢
    obtain ⟨_, y, _, h2⟩ := h0
    obtain ⟨h9, y', h3, h4⟩ := h
    exact ⟨h9, y', h3, VRs.narrow hle cs _ _ h2 h4⟩
  | .tuple cs, v, u, h0, h => by
    simp only [VR] at h0 h ⊢
    obtain ⟨y, _, h2⟩ := h0
    obtain ⟨y', h3, h4⟩ := h
    exact ⟨y', h3, VRs.narrow hle cs _ _ h2 h4⟩
theorem VRs.narrow {ρ ρ' : Rho} (hle : ρ.le ρ') : ∀ (ds : List DV) (vs us : List Value), VRs ρ ds vs → VRs ρ' ds us → VRs ρ ds us
  | [], vs, us, _, h => by simpa [VRs] using h
  | d :: ds, [], us, h0, h => by simp [VRs] at h0
  | d :: ds, v :: vs, [], h0, h => by simp [VRs] at h
  | d :: ds, v :: vs, u :: us, h0, h => by
    simp only [VRs] at h0 h ⊢
    obtain ⟨a, b, e, h1, h2⟩ := h0
    obtain ⟨a', b', e', h3, h4⟩ := h
    cases e
    cases e'
    exact ⟨_, _, rfl, VR.narrow hle d _ _ h1 h3, VRs.narrow hle ds _ _ h2 h4⟩
end
theorem EntsR.narrow {ρ ρ' : Rho} (hle : ρ.le ρ') {xs : List (DV × DV)} {es : List MapEntry} (h0 : EntsR ρ xs es) : ∀ {es' : List MapEntry}, EntsR ρ' xs es' → EntsR ρ xs es' := by
  induction h0 with
  | nil => intro es' h; cases h; exact .nil
  | cons a _ ih =>
    intro es' h
    cases h with
    | cons b r => exact .cons ⟨VR.narrow hle _ _ _ a.key b.key, VR.narrow hle _ _ _ a.val b.val⟩ (ih r)
theorem ObjR.narrow {ρ ρ' : Rho} (hle : ρ.le ρ') {pl : Pl} {b b' : Option Obj} : ∀ {o : DObj}, ObjR ρ pl b o → ObjR ρ' pl b' o → ObjR ρ pl b' o
  | .rows _ _ _, h0, h => ⟨h.1, h.2.1, fun i r hr => ⟨(h.2.2.1 i r hr).1, fun j d hd => by
      obtain ⟨_, c0, _, v0⟩ := (h0.2.2.1 i r hr).2 j d hd
      obtain ⟨h1, c, hc, hv⟩ := (h.2.2.1 i r hr).2 j d hd
      exact ⟨h1, c, hc, VR.narrow hle _ _ _ v0 hv⟩⟩, h.2.2.2⟩
  | .map _, h0, h => by
    obtain ⟨_, _, _, e0⟩ := h0
    obtain ⟨ents, clock, hb, he⟩ := h
    exact ⟨ents, clock, hb, EntsR.narrow hle e0 he⟩
  | .iter _ _, _, h => h
/-- What was made behind is forgotten. -/
theorem Moves.drop {ρ ρ1 : Rho} {H H1 : DH} {w w' : World} (ha : Agree ρ H w) (h : Moves ρ H w ρ1 H1 w') (hk : ∀ l o, H.obj l = some o → H1.obj l = some o) : Moves ρ H w ρ H w' where
  le := Rho.le_refl _
  agree := {
    low := ha.low
    lies := fun l pl e => Nat.lt_of_lt_of_le (ha.lies l pl e) h.size
    obj := fun l o e => by
      obtain ⟨pl, hp, ho⟩ := ha.obj l o e
      obtain ⟨pl', hp', ho'⟩ := h.agree.obj l o (hk l o e)
      rw [h.le _ _ hp] at hp'; cases hp'
      exact ⟨pl, hp, ho.narrow h.le ho'⟩
    apart := ha.apart }
  os := h.os
  tape := h.tape
  output := h.output
  size := h.size
  same := h.same
  own := fun b hb => .inl hb
  fresh := fun _ _ h => .inl h
section
variable {P : Program} {X : Ext}
theorem callOk_of_calls {f : FuncId} {fn : Func} {c : Code} (hf : P.funcs[f]? = some fn) (hn : (fn.name == "runtime.NumGoroutine") = false) (hb : fn.body = some c) {args : Array Value} {w : World} {K : Value → World → Prop}
    (h : Calls P f args w fun | .returned v, w' => K v w' | _, _ => False) : CallOk P f args w K := by
  intro o a next Q hq
  rw [Go.MuLone.run_callFunc_enter hf hn hb, Oper.upon_enter]
  refine h.mono fun e w' he => ?_
  cases e with
  | returned v => exact hq v w' he
  | panicked ch => exact he.elim
  | outgrown => exact he.elim
/-- A function whose arguments and whose answer lead to no place: its table may be told from an empty heap. -/
theorem ext_closed (hX : ProgOk P X) {f : FuncId} {fn : Func} {c : Code} (hf : P.funcs[f]? = some fn) (hb : fn.body = some c) (hx : X f = none) {g : List DV → DH → Option (DV × DH)}
    (hg : ∀ args H r H', g args H = some (r, H') → H' = H ∧ DV.closeds args = true ∧ r.closed = true ∧ ∃ k H1, callD P X k f args ⟨0, fun _ => none⟩ = some (r, H1)) : ExtSound P g f := by
  intro args H r H' h ρ w vs ha hv
  obtain ⟨rfl, hca, hcr, k, H1, hk⟩ := hg args H r H' h
  refine callOk_of_calls hf (hX.body f fn c hx hf hb).1 hb ((calls_sound hX hf hb hx hk (empty_agree (W := w)) (VRs.closed (ρ := ρ) _ _ hca hv)).mono fun e w' he => ?_)
  cases e with
  | returned v =>
    obtain ⟨ρ', h1, h2⟩ := he
    have hsame : ∀ b, b < w.heap.size → w'.heap[b]? = w.heap[b]? := fun b hb => h2.same b hb fun ⟨l, o, pl, ho, _⟩ => by cases ho
    refine ⟨ρ, VR.closed _ _ hcr h1, Rho.le_refl _, ⟨ha.low, fun l pl e => Nat.lt_of_lt_of_le (ha.lies l pl e) h2.size, fun l o e => ?_, ha.apart⟩, h2.os, h2.tape, h2.output, h2.size, fun b hb _ => hsame b hb, fun b hb => .inl hb, fun _ _ h => .inl h⟩
    obtain ⟨pl, hp, ho⟩ := ha.obj l o e
    exact ⟨pl, hp, by rw [hsame _ (ha.lies l pl hp)]; exact ho⟩
  | panicked ch => exact he.elim
  | outgrown => exact he.elim
/-! ### the functions that a proof reads by their text, and those it has a table for -/
def Xof (L : List FuncId) (E : List (FuncId × (List DV → DH → Option (DV × DH)))) : Ext := fun f =>
  match E.lookup f with
  | some g => some g
  | none => if L.contains f then none else some fun _ _ => none
def okB (P : Program) (f : FuncId) : Bool :=
  match P.funcs[f]? with
  | some fn => match fn.body with
    | some c => !(fn.name == "runtime.NumGoroutine") && codeOk P c
    | none => true
  | none => true
theorem ext_nothing (f : FuncId) : ExtSound P (fun _ _ => none) f := fun args H r H' h => by cases h
theorem progOk_of {L : List FuncId} {E : List (FuncId × (List DV → DH → Option (DV × DH)))} (hmix : P.follows .mixedOrders = true) (hL : L.all (okB P) = true) (hE : ∀ f g, (f, g) ∈ E → ExtSound P g f) : ProgOk P (Xof L E) where
  mix := hmix
  body := fun f fn c hx hf hb => by
    unfold Xof at hx
    split at hx
    · cases hx
    · split at hx
      · rename_i hc
        have := List.all_eq_true.mp hL f (List.contains_iff_mem.mp hc)
        unfold okB at this
        rw [hf] at this
        simp only [hb, Bool.and_eq_true, Bool.not_eq_true'] at this
        exact ⟨this.1, codeOk_spec hmix this.2⟩
      · cases hx
  ext := fun f g hx => by
    unfold Xof at hx
    split at hx
    · rename_i g' hg
      cases hx
      exact hE f g (by
        clear hE
        induction E with
        | nil => cases hg
        | cons x E ih =>
          obtain ⟨a, b⟩ := x
          simp only [List.lookup] at hg
          split at hg
          · rename_i he
            cases hg
            have : f = a := by simpa using he
            subst this
            exact List.mem_cons_self
          · exact List.mem_cons_of_mem _ (ih hg))
    · split at hx
      · cases hx
      · cases hx; exact ext_nothing f
/-! ### more rounds -/
def CFle (cf cf' : CallF) : Prop := ∀ f a H r, cf f a H = some r → cf' f a H = some r
theorem CFle.refl (cf : CallF) : CFle cf cf := fun _ _ _ _ h => h
theorem opD_mono {cf cf' : CallF} (h : CFle cf cf') {o : Oper} {env : List DV} {H : DH} {r : DV × DH} (e : opD P cf o env H = some r) : opD P cf' o env H = some r := by
  unfold opD at *
  split
  · rename_i hop
    rw [hop] at e
    simp only at e ⊢
    split <;> rename_i hc <;> rw [hc] at e <;> simp only at e
    · exact h _ _ _ _ e
    · cases e
  · rename_i hop
    rw [hop] at e
    simp only at e ⊢
    split <;> rename_i hc <;> rw [hc] at e <;> simp only at e
    · exact h _ _ _ _ e
    · cases e
  · rename_i h1 h2
    split at e
    · rename_i hop; exact absurd hop (h1 _ _ _)
    · rename_i hop; exact absurd hop (h2 _ _ _ _)
    · exact e
theorem runOps_mono {cf cf' : CallF} (h : CFle cf cf') {ops : Array Oper} : ∀ (l : List Oper) (st st' : DSt), runOps P cf ops l st = some st' → runOps P cf' ops l st = some st'
  | [], st, st', e => e
  | o :: r, st, st', e => by
    simp only [runOps] at *
    split
    · rename_i hw
      rw [if_pos hw] at e
      split at e
      · rename_i v H1 ho
        rw [opD_mono h ho]
        exact runOps_mono h r _ _ e
      · cases e
    · rename_i hw
      rw [if_neg hw] at e
      exact runOps_mono h r _ _ e
theorem runDraw_mono {cf cf' : CallF} (h : CFle cf cf') {ops : Array Oper} {bef : Array Nat} : ∀ (l : List Oper) (i : Nat) (seen : List Seen) (was : List Was) (st st' : DSt), runDraw P cf ops bef l i seen was st = some st' → runDraw P cf' ops bef l i seen was st = some st'
  | [], i, seen, was, st, st', e => e
  | o :: r, i, seen, was, st, st', e => by
    simp only [runDraw] at *
    split
    · rename_i hw
      rw [if_pos hw] at e
      split at e
      · rename_i v H1 ho
        rw [opD_mono h ho]
        simp only
        split at e
        · rename_i hm
          rw [if_pos hm]
          split at e
          · rename_i hs
            rw [if_pos hs]
            exact runDraw_mono h r _ _ _ _ _ e
          · cases e
        · rename_i hm
          rw [if_neg hm]
          split at e
          · rename_i hr
            rw [if_pos hr]
            split at e
            · rename_i hs
              rw [if_pos hs]
              exact runDraw_mono h r _ _ _ _ _ e
            · cases e
          · rename_i hr
            rw [if_neg hr]
            exact runDraw_mono h r _ _ _ _ _ e
      · cases e
    · rename_i hw
      rw [if_neg hw] at e
      exact runDraw_mono h r _ _ _ _ _ e
theorem execD_mono {cf cf' : CallF} (h : CFle cf cf') : ∀ (k k' : Nat), k ≤ k' → ∀ (c : Code) (st : DSt) (r : DExit × DSt), execD P cf k c st = some r → execD P cf' k' c st = some r := by
  intro k
  induction k with
  | zero => intro k' _ c st r e; simp [execD] at e
  | succ k ih =>
    intro k' hk c st r e
    obtain ⟨m, rfl⟩ : ∃ m, k' = m + 1 := ⟨k' - 1, by omega⟩
    have hm : k ≤ m := by omega
    cases c <;> simp only [execD] at e ⊢ <;> try exact e
    case seq a b =>
      split at e
      · rename_i st1 h1
        rw [ih m hm _ _ _ h1]
        exact ih m hm _ _ _ e
      · rename_i hne
        rw [ih m hm _ _ _ e]
        obtain ⟨x, st2⟩ := r
        cases x with
        | normal => exact absurd e (hne st2)
        | exit id => rfl
        | ret => rfl
    case cond c x y =>
      split at e
      · rename_i t ht
        exact ih m hm _ _ _ e
      · cases e
    case block id c =>
      split at e
      · rename_i id' st1 h1
        rw [ih m hm _ _ _ h1]
        exact e
      · rename_i hne
        rw [ih m hm _ _ _ e]
        obtain ⟨x, st2⟩ := r
        cases x with
        | normal => rfl
        | exit id' => exact absurd e (hne id' st2)
        | ret => rfl
    case loop c =>
      split at e
      · rename_i st1 h1
        rw [ih m hm _ _ _ h1]
        exact ih m hm _ _ _ e
      · rename_i hne
        rw [ih m hm _ _ _ e]
        obtain ⟨x, st2⟩ := r
        cases x with
        | normal => exact absurd e (hne st2)
        | exit id => rfl
        | ret => rfl
    case region id ops dr =>
      cases dr with
      | false =>
        simp only [execD] at e ⊢
        cases hr : runOps P cf ops ops.toList st with
        | none => rw [hr] at e; cases e
        | some st1 => rw [hr] at e; rw [runOps_mono h _ _ _ hr]; exact e
      | true =>
        simp only [execD] at e ⊢
        cases hr : runDraw P cf ops (Region.before ops) ops.toList 0 [] [] st with
        | none => rw [hr] at e; cases e
        | some st1 => rw [hr] at e; rw [runDraw_mono h _ _ _ _ _ _ hr]; exact e
theorem callD_mono : ∀ (k k' : Nat), k ≤ k' → CFle (callD P X k) (callD P X k') := by
  intro k
  induction k with
  | zero => intro k' _ f a H r e; simp [callD] at e
  | succ k ih =>
    intro k' hk f a H r e
    obtain ⟨m, rfl⟩ : ∃ m, k' = m + 1 := ⟨k' - 1, by omega⟩
    simp only [callD] at e ⊢
    split
    · rename_i g hg; rw [hg] at e; exact e
    · rename_i hg
      rw [hg] at e
      simp only at e
      split
      · rename_i fn hf
        rw [hf] at e
        simp only at e
        split
        · rename_i c hc
          rw [hc] at e
          simp only at e
          split at e
          · rename_i st he
            rw [execD_mono (ih m (by omega)) _ _ (by omega) _ _ _ he]
            exact e
          · rename_i st he
            rw [execD_mono (ih m (by omega)) _ _ (by omega) _ _ _ he]
            exact e
          · cases e
        · rename_i hc; rw [hc] at e; cases e
      · rename_i hf; rw [hf] at e; cases e
end
end Go.Det

/- Reasoning about code: what it comes to, with no numbers of rounds. -/
namespace Go.Det
set_option linter.unusedVariables false
set_option linter.unusedSimpArgs false
section
variable {P : Program} {X : Ext}
theorem getD_zero (x : DV) (xs : List DV) (d : DV) : (x :: xs).getD 0 d = x := rfl
theorem getD_succ (x : DV) (xs : List DV) (n : Nat) (d : DV) : (x :: xs).getD (n + 1) d = xs.getD n d := rfl
theorem fieldAt_zero (x : Field) (xs : List Field) (h : 0 < (x :: xs).toArray.size) : (x :: xs).toArray[0] = x := rfl
theorem fieldAt_succ (x : Field) (xs : List Field) (n : Nat) (h : n + 1 < (x :: xs).toArray.size) : (x :: xs).toArray[n + 1] = xs.toArray[n]'(by simpa using h) := rfl
theorem DH.new_next (H : DH) (o : DObj) : (H.new o).next = H.next + 1 := rfl
theorem DH.set_next (H : DH) (l : Nat) (o : Option DObj) : (H.set l o).next = H.next := rfl
/-- A call comes to an answer of which K holds. -/
structure CallWp (P : Program) (X : Ext) (f : FuncId) (args : List DV) (H : DH) (K : DV → DH → Prop) : Prop where
  ex : ∃ k r H', callD P X k f args H = some (r, H') ∧ K r H'
/-- A code comes to an exit of which Q holds. -/
structure Dwp (P : Program) (X : Ext) (c : Code) (st : DSt) (Q : DExit → DSt → Prop) : Prop where
  ex : ∃ k e st', execD P (callD P X k) k c st = some (e, st') ∧ Q e st'
structure OpsWp (P : Program) (X : Ext) (all : Array Oper) (l : List Oper) (st : DSt) (K : DSt → Prop) : Prop where
  ex : ∃ k st', runOps P (callD P X k) all l st = some st' ∧ K st'
structure OpWp (P : Program) (X : Ext) (o : Oper) (env : List DV) (H : DH) (K : DV → DH → Prop) : Prop where
  ex : ∃ k v H', opD P (callD P X k) o env H = some (v, H') ∧ K v H'
theorem CallWp.mono {f : FuncId} {args : List DV} {H : DH} {K K' : DV → DH → Prop} (h : CallWp P X f args H K) (hk : ∀ r H', K r H' → K' r H') : CallWp P X f args H K' := by
  obtain ⟨k, r, H', h1, h2⟩ := h.ex
  exact ⟨⟨k, r, H', h1, hk _ _ h2⟩⟩
theorem Dwp.mono {c : Code} {st : DSt} {Q Q' : DExit → DSt → Prop} (h : Dwp P X c st Q) (hk : ∀ e st', Q e st' → Q' e st') : Dwp P X c st Q' := by
  obtain ⟨k, e, st', h1, h2⟩ := h.ex
  exact ⟨⟨k, e, st', h1, hk _ _ h2⟩⟩
theorem dwp_skip {st : DSt} {Q : DExit → DSt → Prop} (h : Q .normal st) : Dwp P X .skip st Q := ⟨⟨1, _, _, rfl, h⟩⟩
theorem dwp_ret {st : DSt} {Q : DExit → DSt → Prop} (h : Q .ret st) : Dwp P X .ret st Q := ⟨⟨1, _, _, rfl, h⟩⟩
theorem dwp_exit {n : Nat} {st : DSt} {Q : DExit → DSt → Prop} (h : Q (.exit n) st) : Dwp P X (.exit n) st Q := ⟨⟨1, _, _, rfl, h⟩⟩
/-- What follows a first part. -/
def thenD (next : DSt → Prop) (Q : DExit → DSt → Prop) : DExit → DSt → Prop
  | .normal, st => next st
  | e, st => Q e st
theorem dwp_seq {a b : Code} {st : DSt} {Q : DExit → DSt → Prop} (h : Dwp P X a st (thenD (fun st => Dwp P X b st Q) Q)) : Dwp P X (.seq a b) st Q := by
  obtain ⟨k, e, st1, h1, h2⟩ := h.ex
  cases e with
  | normal =>
    obtain ⟨k2, e2, st2, h3, h4⟩ := h2.ex
    refine ⟨⟨k + k2 + 1, e2, st2, ?_, h4⟩⟩
    simp only [execD]
    rw [execD_mono (callD_mono k (k + k2 + 1) (by omega)) k (k + k2) (by omega) _ _ _ h1]
    exact execD_mono (callD_mono k2 (k + k2 + 1) (by omega)) k2 (k + k2) (by omega) _ _ _ h3
  | exit id =>
    refine ⟨⟨k + 1, .exit id, st1, ?_, h2⟩⟩
    simp only [execD]
    rw [execD_mono (callD_mono k (k + 1) (by omega)) k k (by omega) _ _ _ h1]
  | ret =>
    refine ⟨⟨k + 1, .ret, st1, ?_, h2⟩⟩
    simp only [execD]
    rw [execD_mono (callD_mono k (k + 1) (by omega)) k k (by omega) _ _ _ h1]
theorem dwp_cond {c : Operand} {x y : Code} {st : DSt} {Q : DExit → DSt → Prop} {t : Bool} (hc : evalO st.env c = some (.bool t)) (ht : t = true → Dwp P X x st Q) (hf : t = false → Dwp P X y st Q) : Dwp P X (.cond c x y) st Q := by
  have : Dwp P X (if t then x else y) st Q := by cases t with
    | true => exact ht rfl
    | false => exact hf rfl
  obtain ⟨k, e, st', h1, h2⟩ := this.ex
  refine ⟨⟨k + 1, e, st', ?_, h2⟩⟩
  simp only [execD, hc]
  exact execD_mono (callD_mono k (k + 1) (by omega)) k k (by omega) _ _ _ h1
/-- What leaves a block. -/
def blockD (id : Nat) (Q : DExit → DSt → Prop) : DExit → DSt → Prop
  | .exit id', st => if id' = id then Q .normal st else Q (.exit id') st
  | e, st => Q e st
theorem dwp_block {id : Nat} {c : Code} {st : DSt} {Q : DExit → DSt → Prop} (h : Dwp P X c st (blockD id Q)) : Dwp P X (.block id c) st Q := by
  obtain ⟨k, e, st1, h1, h2⟩ := h.ex
  have h1' := execD_mono (callD_mono k (k + 1) (by omega)) k k (by omega) _ _ _ h1
  cases e with
  | normal => exact ⟨⟨k + 1, .normal, st1, by simp only [execD]; rw [h1'], h2⟩⟩
  | ret => exact ⟨⟨k + 1, .ret, st1, by simp only [execD]; rw [h1'], h2⟩⟩
  | exit id' =>
    simp only [blockD] at h2
    split at h2
    · rename_i hid
      exact ⟨⟨k + 1, .normal, st1, by simp only [execD]; rw [h1']; simp only [hid, if_true], h2⟩⟩
    · rename_i hid
      exact ⟨⟨k + 1, .exit id', st1, by simp only [execD]; rw [h1']; simp only [hid, if_false], h2⟩⟩
/-- A loop, with what holds ahead of each round and what each round lessens. -/
theorem dwp_loop {c : Code} {st : DSt} {Q : DExit → DSt → Prop} (I : DSt → Prop) (μ : DSt → Nat) (h0 : I st) (hstep : ∀ st, I st → Dwp P X c st (thenD (fun st' => I st' ∧ μ st' < μ st) Q)) : Dwp P X (.loop c) st Q := by
  have key : ∀ n st, μ st < n → I st → Dwp P X (.loop c) st Q := by
    intro n
    induction n with
    | zero => intro st h; omega
    | succ n ih =>
      intro st hn hI
      obtain ⟨k, e, st1, h1, h2⟩ := (hstep st hI).ex
      cases e with
      | normal =>
        obtain ⟨k2, e2, st2, h3, h4⟩ := (ih st1 (by have := h2.2; omega) h2.1).ex
        refine ⟨⟨k + k2 + 1, e2, st2, ?_, h4⟩⟩
        simp only [execD]
        rw [execD_mono (callD_mono k (k + k2 + 1) (by omega)) k (k + k2) (by omega) _ _ _ h1]
        exact execD_mono (callD_mono k2 (k + k2 + 1) (by omega)) k2 (k + k2) (by omega) _ _ _ h3
      | exit id =>
        refine ⟨⟨k + 1, .exit id, st1, ?_, h2⟩⟩
        simp only [execD]
        rw [execD_mono (callD_mono k (k + 1) (by omega)) k k (by omega) _ _ _ h1]
      | ret =>
        refine ⟨⟨k + 1, .ret, st1, ?_, h2⟩⟩
        simp only [execD]
        rw [execD_mono (callD_mono k (k + 1) (by omega)) k k (by omega) _ _ _ h1]
  exact key _ st (Nat.lt_succ_self _) h0
/-- One round of a loop, then the loop again. -/
theorem dwp_round {c : Code} {st : DSt} {Q : DExit → DSt → Prop} (h : Dwp P X c st (thenD (fun st' => Dwp P X (.loop c) st' Q) Q)) : Dwp P X (.loop c) st Q := by
  obtain ⟨k, e, st1, h1, h2⟩ := h.ex
  cases e with
  | normal =>
    obtain ⟨k2, e2, st2, h3, h4⟩ := h2.ex
    refine ⟨⟨k + k2 + 1, e2, st2, ?_, h4⟩⟩
    simp only [execD]
    rw [execD_mono (callD_mono k (k + k2 + 1) (by omega)) k (k + k2) (by omega) _ _ _ h1]
    exact execD_mono (callD_mono k2 (k + k2 + 1) (by omega)) k2 (k + k2) (by omega) _ _ _ h3
  | exit id =>
    refine ⟨⟨k + 1, .exit id, st1, ?_, h2⟩⟩
    simp only [execD]
    rw [execD_mono (callD_mono k (k + 1) (by omega)) k k (by omega) _ _ _ h1]
  | ret =>
    refine ⟨⟨k + 1, .ret, st1, ?_, h2⟩⟩
    simp only [execD]
    rw [execD_mono (callD_mono k (k + 1) (by omega)) k k (by omega) _ _ _ h1]
theorem dwp_region {id : Nat} {ops : Array Oper} {st : DSt} {Q : DExit → DSt → Prop} (h : OpsWp P X ops ops.toList st (fun st' => Q .normal st')) : Dwp P X (.region id ops false) st Q := by
  obtain ⟨k, st', h1, h2⟩ := h.ex
  refine ⟨⟨k + 1, .normal, st', ?_, h2⟩⟩
  simp only [execD]
  rw [runOps_mono (callD_mono k (k + 1) (by omega)) _ _ _ h1]
  rfl
theorem ops_nil {all : Array Oper} {st : DSt} {K : DSt → Prop} (h : K st) : OpsWp P X all [] st K := ⟨⟨0, st, rfl, h⟩⟩
/-- An operation, of no guard. -/
theorem ops_cons {all : Array Oper} {o : Oper} {r : List Oper} {st : DSt} {K : DSt → Prop} (hw : Region.wanted o (dyield all st.env) = true)
    (h : OpWp P X o st.env st.H (fun v H => OpsWp P X all r ⟨putD st.env o.dst v, H⟩ K)) : OpsWp P X all (o :: r) st K := by
  obtain ⟨k, v, H, h1, ⟨k2, st', h2, h3⟩⟩ := h.ex
  refine ⟨⟨k + k2, st', ?_, h3⟩⟩
  simp only [runOps, hw, if_true]
  rw [opD_mono (callD_mono k (k + k2) (by omega)) h1]
  exact runOps_mono (callD_mono k2 (k + k2) (by omega)) _ _ _ h2
/-- An operation that its guard leaves out. -/
theorem ops_off {all : Array Oper} {o : Oper} {r : List Oper} {st : DSt} {K : DSt → Prop} (hw : Region.wanted o (dyield all st.env) = false)
    (h : OpsWp P X all r ⟨putD st.env o.dst undefD, st.H⟩ K) : OpsWp P X all (o :: r) st K := by
  obtain ⟨k, st', h2, h3⟩ := h.ex
  refine ⟨⟨k, st', ?_, h3⟩⟩
  simp only [runOps, hw]
  exact h2
/-- An operation that is no call. -/
theorem op_at {o : Oper} {env : List DV} {H : DH} {K : DV → DH → Prop} {v : DV} {H' : DH} (h : opD P (fun _ _ _ => none) o env H = some (v, H')) (hk : K v H') : OpWp P X o env H K :=
  ⟨⟨0, v, H', by
    have := opD_mono (P := P) (cf := fun _ _ _ => none) (cf' := callD P X 0) (fun _ _ _ _ h => by cases h) h
    exact this, hk⟩⟩
/-- An operation of no guard. -/
theorem ops_plain {all : Array Oper} {o : Oper} {r : List Oper} {st : DSt} {K : DSt → Prop} (hg : o.guard = none)
    (h : OpWp P X o st.env st.H (fun v H => OpsWp P X all r ⟨putD st.env o.dst v, H⟩ K)) : OpsWp P X all (o :: r) st K :=
  ops_cons (by unfold Region.wanted; rw [hg]) h
theorem wanted_at {o : Oper} {y : Nat → Option Bool} {g : Nat} {w b : Bool} (hg : o.guard = some (g, w)) (hy : y g = some b) : Region.wanted o y = (b == w) := by
  unfold Region.wanted
  rw [hg]
  simp only [hy]
  cases b <;> cases w <;> rfl
theorem wanted_plain {o : Oper} {y : Nat → Option Bool} (hg : o.guard = none) : Region.wanted o y = true := by unfold Region.wanted; rw [hg]
theorem wanted_on {o : Oper} {y : Nat → Option Bool} {g : Nat} {w b : Bool} (hg : o.guard = some (g, w)) (hy : y g = some b) (hb : b = w) : Region.wanted o y = true := by rw [wanted_at hg hy, hb]; simp
theorem wanted_off1 {o : Oper} {y : Nat → Option Bool} {g : Nat} {b : Bool} (hg : o.guard = some (g, true)) (hy : y g = some b) (hb : b = false) : Region.wanted o y = false := by rw [wanted_at hg hy, hb]; rfl
theorem wanted_off0 {o : Oper} {y : Nat → Option Bool} {g : Nat} {b : Bool} (hg : o.guard = some (g, false)) (hy : y g = some b) (hb : b = true) : Region.wanted o y = false := by rw [wanted_at hg hy, hb]; rfl
theorem ops_on {all : Array Oper} {o : Oper} {r : List Oper} {st : DSt} {K : DSt → Prop} {g : Nat} {w b : Bool} (hg : o.guard = some (g, w)) (hy : dyield all st.env g = some b) (hb : b = w)
    (h : OpWp P X o st.env st.H (fun v H => OpsWp P X all r ⟨putD st.env o.dst v, H⟩ K)) : OpsWp P X all (o :: r) st K :=
  ops_cons (by rw [wanted_at hg hy, hb]; simp) h
theorem ops_off1 {all : Array Oper} {o : Oper} {r : List Oper} {st : DSt} {K : DSt → Prop} {g : Nat} {b : Bool} (hg : o.guard = some (g, true)) (hy : dyield all st.env g = some b) (hb : b = false)
    (h : OpsWp P X all r ⟨putD st.env o.dst undefD, st.H⟩ K) : OpsWp P X all (o :: r) st K :=
  ops_off (by rw [wanted_at hg hy, hb]; rfl) h
theorem ops_off0 {all : Array Oper} {o : Oper} {r : List Oper} {st : DSt} {K : DSt → Prop} {g : Nat} {b : Bool} (hg : o.guard = some (g, false)) (hy : dyield all st.env g = some b) (hb : b = true)
    (h : OpsWp P X all r ⟨putD st.env o.dst undefD, st.H⟩ K) : OpsWp P X all (o :: r) st K :=
  ops_off (by rw [wanted_at hg hy, hb]; rfl) h
theorem ops_split1 {all : Array Oper} {o : Oper} {r : List Oper} {st : DSt} {K : DSt → Prop} {g : Nat} {b : Bool} (hg : o.guard = some (g, true)) (hy : dyield all st.env g = some b)
    (ht : b = true → OpWp P X o st.env st.H (fun v H => OpsWp P X all r ⟨putD st.env o.dst v, H⟩ K)) (hf : b = false → OpsWp P X all r ⟨putD st.env o.dst undefD, st.H⟩ K) : OpsWp P X all (o :: r) st K := by
  cases b with
  | true => exact ops_on hg hy rfl (ht rfl)
  | false => exact ops_off1 hg hy rfl (hf rfl)
theorem ops_split0 {all : Array Oper} {o : Oper} {r : List Oper} {st : DSt} {K : DSt → Prop} {g : Nat} {b : Bool} (hg : o.guard = some (g, false)) (hy : dyield all st.env g = some b)
    (ht : b = false → OpWp P X o st.env st.H (fun v H => OpsWp P X all r ⟨putD st.env o.dst v, H⟩ K)) (hf : b = true → OpsWp P X all r ⟨putD st.env o.dst undefD, st.H⟩ K) : OpsWp P X all (o :: r) st K := by
  cases b with
  | false => exact ops_on hg hy rfl (ht rfl)
  | true => exact ops_off0 hg hy rfl (hf rfl)
theorem op_pick {o : Oper} {c x y : Operand} (ho : o.op = .pick c x y) {env : List DV} {H : DH} {K : DV → DH → Prop} {b : Bool} (hc : evalO env c = some (.bool b)) (ht : b = true → ∃ v, evalO env x = some v ∧ K v H) (hf : b = false → ∃ v, evalO env y = some v ∧ K v H) : OpWp P X o env H K := by
  cases b with
  | true =>
    obtain ⟨v, h1, h2⟩ := ht rfl
    refine op_at (v := v) (H' := H) ?_ h2
    simp only [opD, ho, mover, reader, pureD, hc, h1]
    rfl
  | false =>
    obtain ⟨v, h1, h2⟩ := hf rfl
    refine op_at (v := v) (H' := H) ?_ h2
    simp only [opD, ho, mover, reader, pureD, hc, h1]
    rfl
theorem op_pick_t {o : Oper} {c x y : Operand} (ho : o.op = .pick c x y) {env : List DV} {H : DH} {K : DV → DH → Prop} {b : Bool} (hc : evalO env c = some (.bool b)) (hb : b = true) {v : DV} (hx : evalO env x = some v) (hk : K v H) : OpWp P X o env H K :=
  op_pick ho hc (fun _ => ⟨v, hx, hk⟩) (fun h => by rw [hb] at h; cases h)
theorem op_pick_f {o : Oper} {c x y : Operand} (ho : o.op = .pick c x y) {env : List DV} {H : DH} {K : DV → DH → Prop} {b : Bool} (hc : evalO env c = some (.bool b)) (hb : b = false) {v : DV} (hx : evalO env y = some v) (hk : K v H) : OpWp P X o env H K :=
  op_pick ho hc (fun h => by rw [hb] at h; cases h) (fun _ => ⟨v, hx, hk⟩)
theorem dwp_cond_t {c : Operand} {x y : Code} {st : DSt} {Q : DExit → DSt → Prop} {t : Bool} (hc : evalO st.env c = some (.bool t)) (ht : t = true) (h : Dwp P X x st Q) : Dwp P X (.cond c x y) st Q :=
  dwp_cond hc (fun _ => h) (fun hf => by rw [ht] at hf; cases hf)
theorem dwp_cond_f {c : Operand} {x y : Code} {st : DSt} {Q : DExit → DSt → Prop} {t : Bool} (hc : evalO st.env c = some (.bool t)) (ht : t = false) (h : Dwp P X y st Q) : Dwp P X (.cond c x y) st Q :=
  dwp_cond hc (fun hf => by rw [ht] at hf; cases hf) (fun _ => h)
/-- A call. -/
theorem op_call {o : Oper} {c : Call} (ho : o.op = .call c) (hc : isCall o.op = true) {env : List DV} {H : DH} {K : DV → DH → Prop} {f : FuncId} {args : List DV} (h : calleeD P (evalO env) c = some (f, args)) (hk : CallWp P X f args H K) : OpWp P X o env H K := by
  obtain ⟨k, r, H', h1, h2⟩ := hk.ex
  refine ⟨⟨k, r, H', ?_, h2⟩⟩
  unfold opD
  split
  · rename_i heq
    rw [ho] at heq
    cases heq
    rw [h]
    exact h1
  · rename_i heq
    rw [ho] at heq
    cases heq
    rw [h]
    exact h1
  · rename_i h3 h4
    exfalso
    rw [ho] at hc h3 h4
    obtain ⟨callee, as, ts⟩ := c
    cases callee with
    | value x => exact h3 _ _ _ rfl
    | invoke r n => exact h4 _ _ _ _ rfl
    | builtin b => simp [isCall] at hc
/-- What a call of a function's text comes to. -/
def retD (P : Program) (fn : Func) (K : DV → DH → Prop) : DExit → DSt → Prop
  | .normal, st | .ret, st => ∃ r, resultsD P fn st = some r ∧ K r st.H
  | _, _ => False
theorem call_text {f : FuncId} {fn : Func} {c : Code} (hx : X f = none) (hf : P.funcs[f]? = some fn) (hb : fn.body = some c) {args : List DV} {H : DH} {K : DV → DH → Prop}
    (h : Dwp P X c ⟨args ++ List.replicate (fn.ntmps - args.length) undefD, H⟩ (retD P fn K)) : CallWp P X f args H K := by
  obtain ⟨k, e, st, h1, h2⟩ := h.ex
  have h1' := execD_mono (callD_mono k k (by omega)) k (k + 1) (by omega) _ _ _ h1
  cases e with
  | exit id => exact h2.elim
  | normal =>
    obtain ⟨r, h3, h4⟩ := h2
    exact ⟨⟨k + 1, r, st.H, by simp only [callD, hx, hf, hb, h1', h3]; rfl, h4⟩⟩
  | ret =>
    obtain ⟨r, h3, h4⟩ := h2
    exact ⟨⟨k + 1, r, st.H, by simp only [callD, hx, hf, hb, h1', h3]; rfl, h4⟩⟩
/-- The results of a call. -/
def resOf (P : Program) (res : List ResultVar) (env : List DV) (H : DH) : Option DV :=
  match (res.map fun r => match r with
    | .tmp t => some (env.getD t undefD)
    | .cell a t => loadD P t H (env.getD a undefD)) with
  | [v] => v
  | vs => if vs.all Option.isSome then some (.tuple (vs.map fun v => v.getD undefD)) else none
def retR (P : Program) (res : List ResultVar) (K : DV → DH → Prop) : DExit → DSt → Prop
  | .normal, st | .ret, st => ∃ r, resOf P res st.env st.H = some r ∧ K r st.H
  | _, _ => False
/-- A function is entered. -/
theorem enter {f : FuncId} {fn : Func} {c : Code} {n : Nat} {res : Array ResultVar} (hx : X f = none) (hf : P.funcs[f]? = some fn) (hb : fn.body = some c) (hn : fn.ntmps = n) (hr : fn.results = res) {args : List DV} {H : DH} {K : DV → DH → Prop}
    (h : Dwp P X c ⟨args ++ List.replicate (n - args.length) undefD, H⟩ (retR P res.toList K)) : CallWp P X f args H K := by
  subst hn
  subst hr
  refine call_text hx hf hb (h.mono fun e st he => ?_)
  cases e <;> exact he
theorem call_table {f : FuncId} {g : List DV → DH → Option (DV × DH)} (hx : X f = some g) {args : List DV} {H H' : DH} {r : DV} {K : DV → DH → Prop} (h : g args H = some (r, H')) (hk : K r H') : CallWp P X f args H K :=
  ⟨⟨1, r, H', by simp only [callD, hx]; exact h, hk⟩⟩
/-! ### regions that draw their order -/
structure DrawWp (P : Program) (X : Ext) (all : Array Oper) (bef : Array Nat) (l : List Oper) (i : Nat) (seen : List Seen) (was : List Was) (st : DSt) (K : DSt → Prop) : Prop where
  ex : ∃ k st', runDraw P (callD P X k) all bef l i seen was st = some st' ∧ K st'
theorem dwp_draw {id : Nat} {ops : Array Oper} {st : DSt} {Q : DExit → DSt → Prop} (bef : Array Nat) (hbef : Region.before ops = bef) (h : DrawWp P X ops bef ops.toList 0 [] [] st (fun st' => Q .normal st')) : Dwp P X (.region id ops true) st Q := by
  subst hbef
  obtain ⟨k, st', h1, h2⟩ := h.ex
  refine ⟨⟨k + 1, .normal, st', ?_, h2⟩⟩
  simp only [execD]
  rw [runDraw_mono (callD_mono k (k + 1) (by omega)) _ _ _ _ _ _ h1]
  rfl
theorem draw_nil {all : Array Oper} {bef : Array Nat} {i : Nat} {seen : List Seen} {was : List Was} {st : DSt} {K : DSt → Prop} (h : K st) : DrawWp P X all bef [] i seen was st K := ⟨⟨0, st, rfl, h⟩⟩
theorem draw_off {all : Array Oper} {bef : Array Nat} {i : Nat} {seen : List Seen} {was : List Was} {o : Oper} {r : List Oper} {st : DSt} {K : DSt → Prop} (hw : Region.wanted o (dyield all st.env) = false)
    (h : DrawWp P X all bef r (i + 1) seen was ⟨putD st.env o.dst undefD, st.H⟩ K) : DrawWp P X all bef (o :: r) i seen was st K := by
  obtain ⟨k, st', h2, h3⟩ := h.ex
  refine ⟨⟨k, st', ?_, h3⟩⟩
  simp only [runDraw, hw]
  exact h2
theorem draw_pure {all : Array Oper} {bef : Array Nat} {i : Nat} {seen : List Seen} {was : List Was} {o : Oper} {r : List Oper} {st : DSt} {K : DSt → Prop} (hw : Region.wanted o (dyield all st.env) = true) (hm : mover P o.op = false) (hr : reader P o.op = false)
    (h : OpWp P X o st.env st.H (fun v H => DrawWp P X all bef r (i + 1) seen was ⟨putD st.env o.dst v, H⟩ K)) : DrawWp P X all bef (o :: r) i seen was st K := by
  obtain ⟨k, v, H, h1, ⟨k2, st', h2, h3⟩⟩ := h.ex
  refine ⟨⟨k + k2, st', ?_, h3⟩⟩
  simp only [runDraw, hw, if_true]
  rw [opD_mono (callD_mono k (k + k2) (by omega)) h1]
  simp only [hm, hr]
  exact runDraw_mono (callD_mono k2 (k + k2) (by omega)) _ _ _ _ _ _ h2
theorem draw_read {all : Array Oper} {bef : Array Nat} {i : Nat} {seen : List Seen} {was : List Was} {o : Oper} {r : List Oper} {st : DSt} {K : DSt → Prop} (hw : Region.wanted o (dyield all st.env) = true) (hm : mover P o.op = false) (hr : reader P o.op = true)
    (h : OpWp P X o st.env st.H (fun v H => stillWas P (bef.getD i 0) was ⟨i, o, st.env, v⟩ = true ∧ DrawWp P X all bef r (i + 1) (⟨i, o, st.env, v⟩ :: seen) was ⟨putD st.env o.dst v, H⟩ K)) : DrawWp P X all bef (o :: r) i seen was st K := by
  obtain ⟨k, v, H, h1, hs, ⟨k2, st', h2, h3⟩⟩ := h.ex
  refine ⟨⟨k + k2, st', ?_, h3⟩⟩
  simp only [runDraw, hw, if_true]
  rw [opD_mono (callD_mono k (k + k2) (by omega)) h1]
  simp only [hm, hr, hs, if_true]
  exact runDraw_mono (callD_mono k2 (k + k2) (by omega)) _ _ _ _ _ _ h2
theorem draw_move {all : Array Oper} {bef : Array Nat} {i : Nat} {seen : List Seen} {was : List Was} {o : Oper} {r : List Oper} {st : DSt} {K : DSt → Prop} (hw : Region.wanted o (dyield all st.env) = true) (hm : mover P o.op = true)
    (h : OpWp P X o st.env st.H (fun v H => stillAll P (bef.getD i 0) seen H = true ∧ DrawWp P X all bef r (i + 1) seen (⟨i, st.H⟩ :: was) ⟨putD st.env o.dst v, H⟩ K)) : DrawWp P X all bef (o :: r) i seen was st K := by
  obtain ⟨k, v, H, h1, hs, ⟨k2, st', h2, h3⟩⟩ := h.ex
  refine ⟨⟨k + k2, st', ?_, h3⟩⟩
  simp only [runDraw, hw, if_true]
  rw [opD_mono (callD_mono k (k + k2) (by omega)) h1]
  simp only [hm, hs, if_true]
  exact runDraw_mono (callD_mono k2 (k + k2) (by omega)) _ _ _ _ _ _ h2
end
end Go.Det

/- Regions that draw their order, where what is called leaves the heap as it is, or comes behind all that stands before it. -/
namespace Go.Det
set_option linter.unusedVariables false
set_option linter.unusedSimpArgs false
mutual
theorem DV.beq_refl : ∀ (a : DV), DV.beq a a = true
  | .bool a => by simp [DV.beq]
  | .int _ _ => by simp [DV.beq]
  | .str _ => by simp [DV.beq]
  | .ptr _ => by simp [DV.beq]
  | .sl _ _ _ _ => by simp [DV.beq]
  | .map _ => by simp [DV.beq]
  | .nilFunc => by simp [DV.beq]
  | .nilIface => by simp [DV.beq]
  | .iface t v => by simp [DV.beq, DV.beq_refl v]
  | .agg a => by simp [DV.beq, DV.beqs_refl a]
  | .tuple a => by simp [DV.beq, DV.beqs_refl a]
  | .func f a c => by simp [DV.beq, DV.beqs_refl a, DV.beqs_refl c]
theorem DV.beqs_refl : ∀ (a : List DV), DV.beqs a a = true
  | [] => by simp [DV.beqs]
  | x :: a => by simp [DV.beqs, DV.beq_refl x, DV.beqs_refl a]
end
section
variable {P : Program} {X : Ext}
theorem still_of {s : Seen} {H : DH} (h : readD P s.o (evalO s.env) H = some s.v) : s.still P H = true := by
  unfold Seen.still
  rw [h]
  exact DV.beq_refl _
def allBits (b bi : Nat) : Bool := (List.range b).all fun j => bi.testBit j
theorem allBits_at {b bi j : Nat} (h : allBits b bi = true) (hj : j < b) : bi.testBit j = true := List.all_eq_true.mp h j (List.mem_range.mpr hj)
/-- What is left of a region whose operations below b stand before all that comes; what was read since reads the same. -/
structure DrawC (P : Program) (X : Ext) (all : Array Oper) (bef : Array Nat) (b i : Nat) (l : List Oper) (st : DSt) (K : DSt → Prop) : Prop where
  ex : ∀ seen was, (∀ s ∈ seen, s.i < i ∧ (b ≤ s.i → readD P s.o (evalO s.env) st.H = some s.v)) → (∀ w ∈ was, w.i < i ∧ (b ≤ w.i → w.H = st.H)) → DrawWp P X all bef l i seen was st K
theorem dwp_drawc {id : Nat} {ops : Array Oper} {st : DSt} {Q : DExit → DSt → Prop} (bef : Array Nat) (hbef : Region.before ops = bef) (h : DrawC P X ops bef 0 0 ops.toList st (fun st' => Q .normal st')) : Dwp P X (.region id ops true) st Q :=
  dwp_draw bef hbef (h.ex [] [] (by simp) (by simp))
section
variable {all : Array Oper} {bef : Array Nat} {b i : Nat} {o : Oper} {r : List Oper} {st : DSt} {K : DSt → Prop}
theorem drawc_nil (h : K st) : DrawC P X all bef b i [] st K := ⟨fun _ _ _ _ => draw_nil h⟩
theorem drawc_off (hw : Region.wanted o (dyield all st.env) = false) (h : DrawC P X all bef b (i + 1) r ⟨putD st.env o.dst undefD, st.H⟩ K) : DrawC P X all bef b i (o :: r) st K :=
  ⟨fun seen was hs hw' => draw_off hw (h.ex seen was (fun s m => ⟨by have := (hs s m).1; omega, (hs s m).2⟩) (fun s m => ⟨by have := (hw' s m).1; omega, (hw' s m).2⟩))⟩
theorem drawc_pure (hw : Region.wanted o (dyield all st.env) = true) (hm : mover P o.op = false) (hr : reader P o.op = false) {v : DV} (hv : opD P (fun _ _ _ => none) o st.env st.H = some (v, st.H))
    (h : DrawC P X all bef b (i + 1) r ⟨putD st.env o.dst v, st.H⟩ K) : DrawC P X all bef b i (o :: r) st K :=
  ⟨fun seen was hs hw' => draw_pure hw hm hr (op_at hv (h.ex seen was (fun s m => ⟨by have := (hs s m).1; omega, (hs s m).2⟩) (fun s m => ⟨by have := (hw' s m).1; omega, (hw' s m).2⟩)))⟩
theorem drawc_pick (hw : Region.wanted o (dyield all st.env) = true) {c x y : Operand} (ho : o.op = .pick c x y) {t : Bool} (hc : evalO st.env c = some (.bool t)) {v : DV} (hv : evalO st.env (if t then x else y) = some v)
    (h : DrawC P X all bef b (i + 1) r ⟨putD st.env o.dst v, st.H⟩ K) : DrawC P X all bef b i (o :: r) st K :=
  drawc_pure hw (by rw [ho]; rfl) (by rw [ho]; rfl) (v := v) (by
    simp only [opD, ho, mover, reader, pureD, hc]
    cases t <;> simp_all) h
theorem drawc_read (hw : Region.wanted o (dyield all st.env) = true) (hm : mover P o.op = false) (hr : reader P o.op = true) (hb : allBits b (bef.getD i 0) = true) {v : DV} (hv : opD P (fun _ _ _ => none) o st.env st.H = some (v, st.H))
    (h : DrawC P X all bef b (i + 1) r ⟨putD st.env o.dst v, st.H⟩ K) : DrawC P X all bef b i (o :: r) st K := by
  refine ⟨fun seen was hs hw' => draw_read hw hm hr (op_at hv ⟨?_, h.ex _ was ?_ (fun s m => ⟨by have := (hw' s m).1; omega, (hw' s m).2⟩)⟩)⟩
  · unfold stillWas
    rw [List.all_eq_true]
    intro w m
    rw [Bool.or_eq_true]
    rcases Nat.lt_or_ge w.i b with hlt | hge
    · exact .inl (allBits_at hb hlt)
    · right
      have := (hw' w m).2 hge
      rw [this]
      exact still_of ((opD_stays hv hm).2.1 hr)
  · intro s m
    rcases List.mem_cons.mp m with rfl | m
    · exact ⟨Nat.lt_succ_self _, fun _ => (opD_stays hv hm).2.1 hr⟩
    · exact ⟨by have := (hs s m).1; omega, (hs s m).2⟩
/-- A call that leaves the heap as it is. -/
theorem drawc_same (hw : Region.wanted o (dyield all st.env) = true) (hm : mover P o.op = true) (hb : allBits b (bef.getD i 0) = true)
    (h : OpWp P X o st.env st.H (fun v H => H = st.H ∧ DrawC P X all bef b (i + 1) r ⟨putD st.env o.dst v, st.H⟩ K)) : DrawC P X all bef b i (o :: r) st K := by
  refine ⟨fun seen was hs hw' => draw_move hw hm ?_⟩
  obtain ⟨k, v, H, h1, hH, h2⟩ := h.ex
  subst hH
  refine ⟨⟨k, v, st.H, h1, ?_, h2.ex _ _ ?_ ?_⟩⟩
  · unfold stillAll
    rw [List.all_eq_true]
    intro s m
    rw [Bool.or_eq_true]
    rcases Nat.lt_or_ge s.i b with hlt | hge
    · exact .inl (allBits_at hb hlt)
    · exact .inr (still_of ((hs s m).2 hge))
  · exact fun s m => ⟨by have := (hs s m).1; omega, (hs s m).2⟩
  · intro w m
    rcases List.mem_cons.mp m with rfl | m
    · exact ⟨Nat.lt_succ_self _, fun _ => rfl⟩
    · exact ⟨by have := (hw' w m).1; omega, (hw' w m).2⟩
/-- What changes the heap, behind all that stands before it. -/
theorem drawc_sync (hw : Region.wanted o (dyield all st.env) = true) (hm : mover P o.op = true) (hb : allBits i (bef.getD i 0) = true)
    (h : OpWp P X o st.env st.H (fun v H => DrawC P X all bef (i + 1) (i + 1) r ⟨putD st.env o.dst v, H⟩ K)) : DrawC P X all bef b i (o :: r) st K := by
  refine ⟨fun seen was hs hw' => draw_move hw hm ?_⟩
  obtain ⟨k, v, H, h1, h2⟩ := h.ex
  refine ⟨⟨k, v, H, h1, ?_, h2.ex _ _ ?_ ?_⟩⟩
  · unfold stillAll
    rw [List.all_eq_true]
    intro s m
    rw [Bool.or_eq_true]
    exact .inl (allBits_at hb (hs s m).1)
  · exact fun s m => ⟨by have := (hs s m).1; omega, fun h => by have := (hs s m).1; omega⟩
  · intro w m
    rcases List.mem_cons.mp m with rfl | m
    · exact ⟨Nat.lt_succ_self _, fun h => absurd h (by simp only; omega)⟩
    · exact ⟨by have := (hw' w m).1; omega, fun h => by have := (hw' w m).1; omega⟩
end
end
end Go.Det

/- What a typed row looks like. -/
namespace Go.Det
set_option linter.unusedVariables false
section
variable {P : Program} {H : DH} {t : TypeId} {cs : List DV}
theorem typed_bool (hu : P.underlying t = some .bool) (h : Typed P H t cs) : ∃ b, cs = [.bool b] := by
  cases h <;> simp_all
theorem typed_int {k : IntKind} (hu : P.underlying t = some (.int k)) (h : Typed P H t cs) : ∃ n, cs = [.int k n] ∧ (Lit.int k n).wf = true := by
  cases h <;> simp_all
theorem typed_slice {e : TypeId} (hu : P.underlying t = some (.slice e)) (h : Typed P H t cs) : cs = [.sl none 0 0 true] ∨
    ∃ l n rs, cs = [.sl (some (l, 0, P.cellsOf e)) n rs.length true] ∧ H.obj l = some (.rows true (P.cellsOf e) rs) ∧ n ≤ rs.length ∧ rs.length ≤ maxLen ∧ ∀ (i : Nat) (r : List DV), rs[i]? = some r → Typed P H e r := by
  cases h with
  | nil h1 => exact .inl rfl
  | @slice _ e' l n rs h1 h2 h3 h4 h5 =>
    rw [hu] at h1
    cases h1
    exact .inr ⟨l, n, rs, rfl, h2, h3, h4, h5⟩
  | bool h1 => rw [hu] at h1; cases h1
  | int h1 => rw [hu] at h1; cases h1
  | str h1 => rw [hu] at h1; cases h1
  | struct h1 => rw [hu] at h1; cases h1
  | array h1 => rw [hu] at h1; cases h1
theorem typed_struct {fs : Array Field} (hu : P.underlying t = some (.struct fs)) (h : Typed P H t cs) : cs.length = P.cellsOf t ∧ ∀ f ∈ fs.toList, Typed P H f.type ((cs.drop f.offset).take (P.cellsOf f.type)) := by
  cases h with
  | struct h1 h2 h3 =>
    rw [hu] at h1
    cases h1
    exact ⟨h2, h3⟩
  | nil h1 => rw [hu] at h1; cases h1
  | slice h1 => rw [hu] at h1; cases h1
  | bool h1 => rw [hu] at h1; cases h1
  | int h1 => rw [hu] at h1; cases h1
  | str h1 => rw [hu] at h1; cases h1
  | array h1 => rw [hu] at h1; cases h1
theorem targ_one {d : DV} (hu : ∀ fs, P.underlying t ≠ some (.struct fs)) (hu' : ∀ n e, P.underlying t ≠ some (.array n e)) (h : TArg P H t d) : Typed P H t [d] := by
  unfold TArg at h
  split at h
  · rename_i fs e; exact absurd e (hu fs)
  · rename_i n e' e; exact absurd e (hu' n e')
  · exact h
theorem len8 {α : Type} {l : List α} (h : l.length = 8) : ∃ a b c d e f g i, l = [a, b, c, d, e, f, g, i] := by
  match l, h with
  | [a, b, c, d, e, f, g, i], _ => exact ⟨a, b, c, d, e, f, g, i, rfl⟩
end
end Go.Det

/- Loads and stores where the heap is told as what was made behind a heap of whatever kind. -/
namespace Go.Det
set_option linter.unusedVariables false
set_option linter.unusedSimpArgs false
section
variable {P : Program} {H : DH}
theorem obj_here {l : Nat} {o : DObj} (h : l = H.next) : (H.new o).obj l = some o := by subst h; simp [DH.new]
theorem obj_skip {l : Nat} {o : DObj} {x : Option DObj} (h : l ≠ H.next) (k : H.obj l = x) : (H.new o).obj l = x := by simp [DH.new, h, k]
theorem obj_set {l : Nat} {o : Option DObj} : (H.set l o).obj l = o := by simp [DH.set]
theorem obj_past {l m : Nat} {o x : Option DObj} (h : l ≠ m) (k : H.obj l = x) : (H.set m o).obj l = x := by simp [DH.set, h, k]
theorem opD_load {cf : CallF} {o : Oper} {t : TypeId} {a : Operand} (ho : o.op = .load t a) {env : List DV} {l i q : Nat} (hp : evalO env a = some (.ptr (some (l, i, q)))) {ro : Bool} {sz : Nat} {rs : List (List DV)} (hobj : H.obj l = some (.rows ro sz rs))
    {r : List DV} (hr : rs[i]? = some r) {v : DV} (hv : partD P t r q = some v) : opD P cf o env H = some (v, H) := by
  simp only [opD, ho, mover, reader, readD, hp, loadD, hobj, hr, hv]
  rfl
theorem opD_store {cf : CallF} {o : Oper} {t : TypeId} {a x : Operand} (ho : o.op = .store t a x) {env : List DV} {l i q : Nat} (hp : evalO env a = some (.ptr (some (l, i, q)))) {v : DV} (hx : evalO env x = some v) {n : Nat} (hn : sizeT P t = some n) (hc : v.cells.length = n)
    {sz : Nat} {rs rs' : List (List DV)} (hobj : H.obj l = some (.rows false sz rs)) (hs : setRow rs i q v.cells = some rs') : opD P cf o env H = some (undefD, H.set l (some (.rows false sz rs'))) := by
  simp only [opD, ho, mover, moveD, hp, hx, storeD, hn, hobj, hc, hs, if_true]
  rfl
/-- Bools' equality. -/
theorem opD_eqb {cf : CallF} {o : Oper} {t u : TypeId} {x y : Operand} (ho : o.op = .binOp .eql t x y u) {env : List DV} {a b : Bool} (hx : evalO env x = some (.bool a)) (hy : evalO env y = some (.bool b)) (ht : P.underlying t = some .bool) : opD P cf o env H = some (.bool (a == b), H) := by
  simp only [opD, ho, mover, reader, pureD, hx, hy, binD, eqD, eqT, ht]
  rfl
theorem opD_neqb {cf : CallF} {o : Oper} {t u : TypeId} {x y : Operand} (ho : o.op = .binOp .neq t x y u) {env : List DV} {a b : Bool} (hx : evalO env x = some (.bool a)) (hy : evalO env y = some (.bool b)) (ht : P.underlying t = some .bool) : opD P cf o env H = some (.bool (!(a == b)), H) := by
  simp only [opD, ho, mover, reader, pureD, hx, hy, binD, eqD, eqT, ht]
  rfl
end
end Go.Det

/- What was there stays; tables for functions that read the heap. -/
namespace Go.Det
set_option linter.unusedVariables false
set_option linter.unusedSimpArgs false
/-- Nothing of what there was has changed. -/
structure Above (H H' : DH) : Prop where
  le : H.next ≤ H'.next
  same : ∀ l, l < H.next → H'.obj l = H.obj l
theorem Above.refl (H : DH) : Above H H := ⟨Nat.le_refl _, fun _ _ => rfl⟩
theorem Above.trans {A B C : DH} (h : Above A B) (k : Above B C) : Above A C := ⟨Nat.le_trans h.le k.le, fun l hl => (k.same l (Nat.lt_of_lt_of_le hl h.le)).trans (h.same l hl)⟩
theorem Above.new {A B : DH} (h : Above A B) (o : DObj) : Above A (B.new o) := ⟨Nat.le_succ_of_le h.le, fun l hl => by rw [obj_skip (by have := h.le; omega) (h.same l hl)]⟩
theorem Above.set {A B : DH} (h : Above A B) {l : Nat} (hl : A.next ≤ l) (o : Option DObj) : Above A (B.set l o) := ⟨h.le, fun m hm => obj_past (by omega) (h.same m hm)⟩
theorem Above.obj {A B : DH} (h : Above A B) {l : Nat} {x : Option DObj} (hl : l < A.next) (e : A.obj l = x) : B.obj l = x := (h.same l hl).trans e
/-- All places lie below the next. -/
def WF (H : DH) : Prop := ∀ l o, H.obj l = some o → l < H.next
theorem Agree.wf {ρ : Rho} {H : DH} {w : World} (h : Agree ρ H w) : WF H := fun l o e => by
  obtain ⟨pl, hp, _⟩ := h.obj l o e
  exact h.low l pl hp
theorem WF.new {H : DH} (h : WF H) (o : DObj) : WF (H.new o) := fun l x e => by
  simp only [DH.new] at e ⊢
  split at e
  · omega
  · have := h l x e; omega
section
variable {P : Program} {X : Ext}
theorem opD_index {H : DH} {cf : CallF} {o : Oper} {t e : TypeId} {x ix : Operand} (ho : o.op = .indexAddr t x ix) {env : List DV} {l i z n c : Nat} {ex : Bool} {j : IntKind} {m : Int} (hx : evalO env x = some (.sl (some (l, i, z)) n c ex)) (hix : evalO env ix = some (.int j m))
    (hu : P.underlying t = some (.slice e)) (hs : sizeT P e = some z) (hm : 0 ≤ m ∧ m < (n : Int)) : opD P cf o env H = some (.ptr (some (l, i + m.toNat, 0)), H) := by
  simp only [opD, ho, mover, reader, pureD, hx, hix, indexAddrD, hu, hs]
  rw [if_neg (by simp), if_neg (by simp), if_pos ⟨trivial, hm⟩]
  rfl
/-- A function that changes nothing of what there was and whose answer leads to no place. -/
theorem ext_read (hX : ProgOk P X) {f : FuncId} {fn : Func} {c : Code} (hf : P.funcs[f]? = some fn) (hb : fn.body = some c) (hx : X f = none) {g : List DV → DH → Option (DV × DH)}
    (hg : ∀ args H r H', WF H → g args H = some (r, H') → H' = H ∧ r.closed = true ∧ CallWp P X f args H fun r' H1 => r' = r ∧ Above H H1) : ExtSound P g f := by
  intro args H r H' h ρ w vs ha hv
  obtain ⟨rfl, hcr, hc⟩ := hg args H r H' ha.wf h
  obtain ⟨k, r', H1, hk, rfl, hab⟩ := hc.ex
  refine callOk_of_calls hf (hX.body f fn c hx hf hb).1 hb ((calls_sound hX hf hb hx hk ha hv).mono fun e w' he => ?_)
  cases e with
  | returned v =>
    obtain ⟨ρ', h1, h2⟩ := he
    exact ⟨ρ, VR.closed _ _ hcr h1, h2.drop ha fun l o e => hab.obj (ha.wf l o e) e⟩
  | panicked ch => exact he.elim
  | outgrown => exact he.elim
end
end Go.Det
