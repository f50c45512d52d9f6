/- What a call is handed: bools, whole numbers, strings, slices, structs, arrays, at whatever depth: as values and read-only rows of the deterministic reading. -/
import Derived.Test.YtphnddoneocfhaaD18
import Derived.Carry
import Derived.OpenShut
import Derived.ChangeOld
import Derived.DataReads
import Derived.SizedLaws
import Derived.ProofKit
namespace Go.Det
set_option linter.unusedVariables false
set_option linter.unusedSimpArgs false

section
variable {P : Program} {A : Type} {enc : TypeId × Value → A} {W : World}

/-- A row of cells is one of a type. -/
inductive Typed (P : Program) (H : DH) : TypeId → List DV → Prop
  | bool {t : TypeId} {b : Bool} : P.underlying t = some .bool → Typed P H t [.bool b]
  | int {t : TypeId} {k : IntKind} {n : Int} : P.underlying t = some (.int k) → (Lit.int k n).wf = true → Typed P H t [.int k n]
  | str {t : TypeId} {s : List UInt8} : P.underlying t = some .string → s.length ≤ maxLen → Typed P H t [.str s]
  | nil {t e : TypeId} : P.underlying t = some (.slice e) → Typed P H t [.sl none 0 0 true]
  | slice {t e : TypeId} {l n : Nat} {rs : List (List DV)} : P.underlying t = some (.slice e) → H.obj l = some (.rows true (P.cellsOf e) rs) → n ≤ rs.length → rs.length ≤ maxLen →
      (∀ (i : Nat) (r : List DV), rs[i]? = some r → Typed P H e r) → Typed P H t [.sl (some (l, 0, P.cellsOf e)) n rs.length true]
  | struct {t : TypeId} {fs : Array Field} {cs : List DV} : P.underlying t = some (.struct fs) → cs.length = P.cellsOf t → (∀ f ∈ fs.toList, Typed P H f.type ((cs.drop f.offset).take (P.cellsOf f.type))) → Typed P H t cs
  | array {t e : TypeId} {m : Nat} {cs : List DV} : P.underlying t = some (.array m e) → cs.length = m * P.cellsOf e → (∀ i, i < m → Typed P H e ((cs.drop (i * P.cellsOf e)).take (P.cellsOf e))) → Typed P H t cs

theorem Typed.mono {H H' : DH} (h : ∀ l o, H.obj l = some o → H'.obj l = some o) {t : TypeId} {cs : List DV} (k : Typed P H t cs) : Typed P H' t cs := by
  induction k with
  | bool a => exact .bool a
  | int a b => exact .int a b
  | str a b => exact .str a b
  | nil a => exact .nil a
  | slice a b c d _ ih => exact .slice a (h _ _ b) c d ih
  | struct a b _ ih => exact .struct a b ih
  | array a b _ ih => exact .array a b ih

def tiles (P : Program) : List Field → Nat → Nat → Bool
  | [], off, size => off == size
  | f :: r, off, size => f.offset == off && tiles P r (off + P.cellsOf f.type) size

/-- The types that are read so. -/
def okTy (P : Program) : Nat → TypeId → Bool
  | 0, _ => false
  | n + 1, t => match P.underlying t with
    | some .bool | some (.int _) | some .string => true
    | some (.slice e) => P.cellsOf e != 0 && okTy P n e
    | some (.struct fs) => tiles P fs.toList 0 (P.cellsOf t) && fs.toList.all fun f => okTy P n f.type
    | some (.array m e) => P.cellsOf t == m * P.cellsOf e && okTy P n e
    | _ => false

theorem tiles_le : ∀ (l : List Field) (off size : Nat), tiles P l off size = true → off ≤ size
  | [], off, size, h => by simp [tiles] at h; omega
  | f :: r, off, size, h => by
    simp only [tiles, Bool.and_eq_true] at h
    have := tiles_le r _ _ h.2
    omega

theorem tiles_off : ∀ (l : List Field) (off size : Nat), tiles P l off size = true → ∀ f ∈ l, off ≤ f.offset
  | [], off, size, h, f, hf => by cases hf
  | g :: r, off, size, h, f, hf => by
    simp only [tiles, Bool.and_eq_true, beq_iff_eq] at h
    rcases List.mem_cons.mp hf with rfl | hf
    · omega
    · have := tiles_off r _ _ h.2 f hf
      omega

/-- All rows are read-only. -/
def RO (H : DH) : Prop := ∀ l o, H.obj l = some o → o.ro = true

structure Grows (W : World) (ρ : Rho) (H : DH) (ρ' : Rho) (H' : DH) : Prop where
  le : ρ.le ρ'
  obj : ∀ l o, H.obj l = some o → H'.obj l = some o
  agree : Agree ρ' H' W
  ro : RO H'

theorem Grows.refl {ρ : Rho} {H : DH} (h : Agree ρ H W) (hr : RO H) : Grows W ρ H ρ H := ⟨Rho.le_refl _, fun _ _ h => h, h, hr⟩
theorem Grows.trans {ρ ρ1 ρ2 : Rho} {H H1 H2 : DH} (h : Grows W ρ H ρ1 H1) (k : Grows W ρ1 H1 ρ2 H2) : Grows W ρ H ρ2 H2 :=
  ⟨Rho.le_trans h.le k.le, fun l o e => k.obj l o (h.obj l o e), k.agree, k.ro⟩

/-- Where there is a slice there is a block. -/
def Room (W : World) (cs : List Value) : Prop := ∀ a n c, Value.slice (some a) n c ∈ cs → 0 < W.heap.size

theorem Room.of {cs cs' : List Value} (h : Room W cs) (hs : ∀ v ∈ cs', v ∈ cs) : Room W cs' := fun a n c hm => h a n c (hs _ hm)

/-- What one reading gives. -/
def InOk (enc : TypeId × Value → A) (P : Program) (W : World) (fuel : Nat) (n : Nat) : Prop :=
  ∀ t cs x, DataW.trod enc P W 0 (fun _ => true) true fuel t cs = some x → okTy P n t = true → Room W cs → ∀ ρ H, Agree ρ H W → RO H →
    ∃ ρ' H' ds, Grows W ρ H ρ' H' ∧ VRs ρ' ds cs ∧ ds.all DV.one = true ∧ Typed P H' t ds

theorem fields_in {fuel n : Nat} (ih : InOk enc P W fuel n) {cs : List Value} {size : Nat} (hl : cs.length = size) (hroom : Room W cs) : ∀ (l : List Field) (off : Nat), tiles P l off size = true → (∀ f ∈ l, ∃ x, DataW.trod enc P W 0 (fun _ => true) true fuel f.type ((cs.drop f.offset).take (P.cellsOf f.type)) = some x) →
    (l.all fun f => okTy P n f.type) = true → ∀ ρ H, Agree ρ H W → RO H →
    ∃ ρ' H' ds, Grows W ρ H ρ' H' ∧ VRs ρ' ds (cs.drop off) ∧ ds.all DV.one = true ∧ ∀ f ∈ l, Typed P H' f.type ((ds.drop (f.offset - off)).take (P.cellsOf f.type))
  | [], off, ht, _, _, ρ, H, ha, hr => by
    simp only [tiles, beq_iff_eq] at ht
    refine ⟨ρ, H, [], .refl ha hr, ?_, rfl, by simp⟩
    rw [List.drop_eq_nil_of_le (by omega)]
    exact .nil
  | f :: l, off, ht, hm, hok, ρ, H, ha, hr => by
    simp only [tiles, Bool.and_eq_true, beq_iff_eq] at ht
    simp only [List.all_cons, Bool.and_eq_true] at hok
    obtain ⟨rfl, ht2⟩ := ht
    obtain ⟨x, hx⟩ := hm f (by simp)
    obtain ⟨ρ1, H1, d1, g1, v1, o1, t1⟩ := ih _ _ _ hx hok.1 (hroom.of fun v hv => List.mem_of_mem_drop (List.mem_of_mem_take hv)) ρ H ha hr
    obtain ⟨ρ2, H2, d2, g2, v2, o2, t2⟩ := fields_in ih hl hroom l (f.offset + P.cellsOf f.type) ht2 (fun g hg => hm g (by simp [hg])) hok.2 ρ1 H1 g1.agree g1.ro
    have hle := tiles_le _ _ _ ht2
    have hlen : d1.length = P.cellsOf f.type := by
      have := VRs.length v1
      rw [List.length_take, List.length_drop] at this
      omega
    refine ⟨ρ2, H2, d1 ++ d2, g1.trans g2, ?_, by simp [o1, o2], fun g hg => ?_⟩
    · have : cs.drop f.offset = (cs.drop f.offset).take (P.cellsOf f.type) ++ cs.drop (f.offset + P.cellsOf f.type) := by
        rw [← List.drop_drop, List.take_append_drop]
      rw [this]
      exact (VRs.mono g2.le _ _ v1).append v2
    · rcases List.mem_cons.mp hg with rfl | hg
      · rw [Nat.sub_self, List.drop_zero, List.take_left' hlen]
        exact t1.mono g2.obj
      · have ho := tiles_off _ _ _ ht2 g hg
        have e : g.offset - f.offset = d1.length + (g.offset - (f.offset + P.cellsOf f.type)) := by omega
        rw [e, List.drop_append, List.drop_eq_nil_of_le (by omega), List.nil_append, Nat.add_sub_cancel_left]
        exact t2 g hg

/-- Parts of one size, one behind the other: an array's. -/
theorem parts_in {fuel n : Nat} (ih : InOk enc P W fuel n) {e : TypeId} (hok : okTy P n e = true) {cs : List Value} (hroom : Room W cs) {m : Nat} (hl : cs.length = m * P.cellsOf e) (hall : ∀ i, i < m → ∃ x, DataW.trod enc P W 0 (fun _ => true) true fuel e ((cs.drop (i * P.cellsOf e)).take (P.cellsOf e)) = some x)
    {ρ : Rho} {H : DH} (ha : Agree ρ H W) (hr : RO H) : ∀ k, k ≤ m → ∃ ρ' H' ds, Grows W ρ H ρ' H' ∧ VRs ρ' ds (cs.take (k * P.cellsOf e)) ∧ ds.all DV.one = true ∧ ∀ i, i < k → Typed P H' e ((ds.drop (i * P.cellsOf e)).take (P.cellsOf e)) := by
  intro k
  induction k with
  | zero => intro _; exact ⟨ρ, H, [], .refl ha hr, by simpa using VRs.nil, rfl, fun i hi => by omega⟩
  | succ k ihk =>
    intro hk
    obtain ⟨ρ1, H1, d1, g1, v1, o1, t1⟩ := ihk (by omega)
    obtain ⟨x, hx⟩ := hall k (by omega)
    obtain ⟨ρ2, H2, d2, g2, v2, o2, t2⟩ := ih _ _ _ hx hok (hroom.of fun v hv => List.mem_of_mem_drop (List.mem_of_mem_take hv)) ρ1 H1 g1.agree g1.ro
    have hmul : k * P.cellsOf e + P.cellsOf e ≤ m * P.cellsOf e := by
      have : (k + 1) * P.cellsOf e ≤ m * P.cellsOf e := Nat.mul_le_mul_right _ hk
      rwa [Nat.succ_mul] at this
    have hd1 : d1.length = k * P.cellsOf e := by
      have := VRs.length v1
      rw [List.length_take] at this
      omega
    have hd2 : d2.length = P.cellsOf e := by
      have := VRs.length v2
      rw [List.length_take, List.length_drop] at this
      omega
    refine ⟨ρ2, H2, d1 ++ d2, g1.trans g2, ?_, by simp [o1, o2], fun i hi => ?_⟩
    · rw [Nat.succ_mul, List.take_add]
      exact (VRs.mono g2.le _ _ v1).append v2
    · by_cases e1 : i = k
      · subst e1
        rw [List.drop_left' hd1, List.take_of_length_le (by omega)]
        exact t2
      · have hik : i * P.cellsOf e + P.cellsOf e ≤ k * P.cellsOf e := by
          have : (i + 1) * P.cellsOf e ≤ k * P.cellsOf e := Nat.mul_le_mul_right _ (by omega)
          rwa [Nat.succ_mul] at this
        rw [List.drop_append_of_le_length (by omega), List.take_append_of_le_length (by rw [List.length_drop]; omega)]
        exact (t1 i (by omega)).mono g2.obj

theorem cell_spot {a : Addr} {v : Value} (h : W.cell? a = some v) : a.spot = none ∧ cellAt W.heap[a.block]? a.off = some v := by
  unfold World.cell? at h
  split at h
  · rename_i c t f hb
    split at h
    · cases h
    · rename_i hs
      refine ⟨by simpa using hs, ?_⟩
      rw [hb]
      exact h
  · cases h

theorem add_none (b o n : Nat) : (Addr.mk b o none).add n = ⟨b, o + n, none⟩ := by
  unfold Addr.add
  split
  · rename_i h; subst h; rfl
  · rfl

theorem rows_in {fuel n : Nat} (ih : InOk enc P W fuel n) {e : TypeId} (hok : okTy P n e = true) (hpos : 0 < W.heap.size) {a : Addr} {m : Nat}
    (hall : ∀ i, i < m → ∃ x, ((W.cells? 0 (a.add (i * P.cellsOf e)) (P.cellsOf e)).bind (DataW.trod enc P W 0 (fun _ => true) true fuel e)) = some x)
    {ρ : Rho} {H : DH} (ha : Agree ρ H W) (hr : RO H) : ∀ k, k ≤ m → ∃ (ρ' : Rho) (H' : DH) (rs : List (List DV)), Grows W ρ H ρ' H' ∧ rs.length = k ∧ ∀ (i : Nat) (r : List DV), rs[i]? = some r → r.all DV.one = true ∧ Typed P H' e r ∧ ∃ cs, W.cells? 0 (a.add (i * P.cellsOf e)) (P.cellsOf e) = some cs ∧ VRs ρ' r cs := by
  intro k
  induction k with
  | zero => intro _; exact ⟨ρ, H, [], .refl ha hr, rfl, fun i r h => by simp at h⟩
  | succ k ihk =>
    intro hk
    obtain ⟨ρ1, H1, rs, g1, l1, h1⟩ := ihk (by omega)
    obtain ⟨x, hx⟩ := hall k (by omega)
    cases hc : W.cells? 0 (a.add (k * P.cellsOf e)) (P.cellsOf e) with
    | none => rw [hc] at hx; simp at hx
    | some cs =>
      rw [hc] at hx
      simp only [Option.bind_some] at hx
      obtain ⟨ρ2, H2, d2, g2, v2, o2, t2⟩ := ih _ _ _ hx hok (fun _ _ _ _ => hpos) ρ1 H1 g1.agree g1.ro
      refine ⟨ρ2, H2, rs ++ [d2], g1.trans g2, by simp [l1], fun i r hi => ?_⟩
      rcases Nat.lt_or_ge i rs.length with hlt | hge
      · rw [List.getElem?_append_left hlt] at hi
        obtain ⟨a1, a2, cs', a3, a4⟩ := h1 i r hi
        exact ⟨a1, a2.mono g2.obj, cs', a3, VRs.mono g2.le _ _ a4⟩
      · rw [List.getElem?_append_right hge] at hi
        have hi0 : i - rs.length = 0 := by
          rcases Nat.eq_zero_or_pos (i - rs.length) with h | h
          · exact h
          · rw [List.getElem?_eq_none (by simp; omega)] at hi; cases hi
        rw [hi0] at hi
        simp at hi
        subst hi
        have : i = k := by omega
        subst this
        exact ⟨o2, t2, cs, hc, v2⟩

theorem Grows.row {ρ : Rho} {H : DH} (ha : Agree ρ H W) (hr : RO H) {pl : Pl} {rs : List (List DV)} (hlies : pl.block < W.heap.size) (hrs : rs.length ≤ pl.tot)
    (hrow : ∀ (i : Nat) (r : List DV), rs[i]? = some r → r.length = pl.sz ∧ ∀ (j : Nat) (d : DV), r[j]? = some d → CR ρ W.heap[pl.block]? (pl.off + i * pl.sz + j) d) :
    Grows W ρ H (fun m => if m = H.next then some pl else ρ m) (H.new (.rows true pl.sz rs)) := by
  have hle : ρ.le (fun m => if m = H.next then some pl else ρ m) := by
    intro l p h
    have := ha.low l p h
    show (if l = H.next then some pl else ρ l) = some p
    rw [if_neg (by omega)]
    exact h
  have hro : RO (H.new (.rows true pl.sz rs)) := by
    intro l o h
    simp only [DH.new] at h
    split at h
    · cases h; rfl
    · exact hr l o h
  have hobj : ∀ l o, H.obj l = some o → (H.new (.rows true pl.sz rs)).obj l = some o := by
    intro l o h
    obtain ⟨p, hp, _⟩ := ha.obj l o h
    have := ha.low l p hp
    simp only [DH.new]
    rw [if_neg (by omega)]
    exact h
  refine ⟨hle, hobj, ⟨?_, ?_, ?_, ?_⟩, hro⟩
  · intro l p h
    have h : (if l = H.next then some pl else ρ l) = some p := h
    simp only [DH.new]
    split at h
    · omega
    · have := ha.low l p h; omega
  · intro l p h
    have h : (if l = H.next then some pl else ρ l) = some p := h
    split at h
    · cases h; exact hlies
    · exact ha.lies l p h
  · intro l o h
    simp only [DH.new] at h
    split at h
    · rename_i hl
      cases h
      refine ⟨pl, by simp [hl], ?_⟩
      refine ⟨rfl, hrs, fun i r hi => ⟨(hrow i r hi).1, fun j d hd => ((hrow i r hi).2 j d hd).mono hle⟩, fun h => by cases h⟩
    · rename_i hl
      obtain ⟨p, hp, ho⟩ := ha.obj l o h
      exact ⟨p, hle l p hp, ho.mono hle⟩
  · intro l l' o o' p p' _ h _ hf
    rw [hro l o h] at hf
    cases hf

theorem trod_in : ∀ fuel n, InOk enc P W fuel n := by
  intro fuel
  induction fuel with
  | zero => intro n t cs x h; simp [DataW.trod] at h
  | succ fuel ih =>
    intro n t cs x h hok hroom ρ H ha hr
    cases n with
    | zero => simp [okTy] at hok
    | succ n =>
      cases hu : P.underlying t with
      | none => simp [okTy, hu] at hok
      | some d =>
        cases d with
        | bool =>
          obtain ⟨b, rfl, rfl⟩ := DataW.trod_bool hu h
          exact ⟨ρ, H, [.bool b], .refl ha hr, VRs.one (by simp [VR]), rfl, .bool hu⟩
        | int k =>
          obtain ⟨m, rfl, rfl, hw⟩ := DataW.trod_int hu h
          exact ⟨ρ, H, [.int k m], .refl ha hr, VRs.one (by simp [VR]), rfl, .int hu hw⟩
        | string =>
          obtain ⟨m, rfl, rfl, hw⟩ := DataW.trod_string hu h
          exact ⟨ρ, H, [.str m.data.toList], .refl ha hr, VRs.one (by simp [VR]), rfl, .str hu (by simpa using hw)⟩
        | slice e =>
          simp only [okTy, hu, Bool.and_eq_true, bne_iff_ne, ne_eq] at hok
          rcases DataW.trod_slice hu h with ⟨rfl, rfl⟩ | ⟨a, len, cap, elems, rest, m, hm, rfl, rfl, _, hl, hc, he, hel, hre, _⟩
          · exact ⟨ρ, H, [.sl none 0 0 true], .refl ha hr, VRs.one (by simp [VR]), rfl, .nil hu⟩
          · cases hm
            obtain ⟨hr1, hre⟩ := hre rfl
            have hpos := hroom a len cap (by simp)
            have hall : ∀ i, i < cap → ∃ x, ((W.cells? 0 (a.add (i * P.cellsOf e)) (P.cellsOf e)).bind (DataW.trod enc P W 0 (fun _ => true) true fuel e)) = some x := by
              intro i hi
              rcases Nat.lt_or_ge i len with h | h
              · exact ⟨elems[i], by rw [hel i h, List.getElem?_eq_getElem (by omega)]⟩
              · have := hre (i - len) (by omega)
                rw [show len + (i - len) = i by omega] at this
                exact ⟨rest[i - len]'(by omega), by rw [this, List.getElem?_eq_getElem (by omega)]⟩
            obtain ⟨ρ1, H1, rs, g1, l1, h1⟩ := rows_in (ih n) hok.2 hpos hall ha hr cap (Nat.le_refl _)
            have hspot : 0 < cap → a.spot = none := by
              intro hcap
              obtain ⟨r, hr0⟩ : ∃ r, rs[0]? = some r := ⟨rs[0]'(by omega), List.getElem?_eq_getElem (by omega)⟩
              obtain ⟨_, _, cs, hcs, _⟩ := h1 0 r hr0
              obtain ⟨_, h3, h4⟩ := World.cells?_some hcs
              have h5 := h4 0 (by omega)
              rw [List.getElem?_eq_getElem (by omega)] at h5
              simp only [Nat.zero_mul, Addr.add, if_true] at h5
              exact (cell_spot h5).1
            let pl : Pl := ⟨if cap = 0 then 0 else a.block, a.off, P.cellsOf e, cap⟩
            have hlies : pl.block < W.heap.size := by
              show (if cap = 0 then 0 else a.block) < _
              split
              · exact hpos
              · obtain ⟨r, hr0⟩ : ∃ r, rs[0]? = some r := ⟨rs[0]'(by omega), List.getElem?_eq_getElem (by omega)⟩
                obtain ⟨_, _, cs, hcs, _⟩ := h1 0 r hr0
                have := World.cells?_block hcs (by omega)
                simpa [Addr.add] using this
            have g2 := Grows.row (W := W) g1.agree g1.ro (pl := pl) (rs := rs) hlies (by show rs.length ≤ cap; omega) (by
              intro i r hi
              have hi' : i < cap := by
                have := (List.getElem?_eq_some_iff.mp hi).1
                omega
              obtain ⟨o1, t1, cs, hcs, v1⟩ := h1 i r hi
              obtain ⟨_, h3, h4⟩ := World.cells?_some hcs
              have hlen := VRs.length v1
              refine ⟨by show r.length = P.cellsOf e; omega, fun j d hd => ?_⟩
              have hj : j < r.length := (List.getElem?_eq_some_iff.mp hd).1
              obtain ⟨c, hc', hv⟩ := VRs.get j v1 hd
              have h5 := h4 j (by omega)
              rw [hc'] at h5
              have hs := hspot (by omega)
              obtain ⟨b, o, sp⟩ := a
              simp only at hs
              subst hs
              rw [add_none, add_none] at h5
              have h6 := (cell_spot h5).2
              refine ⟨List.all_eq_true.mp o1 d (List.mem_of_getElem? hd), c, ?_, hv⟩
              show cellAt W.heap[(if cap = 0 then 0 else b)]? (o + i * P.cellsOf e + j) = some c
              rw [if_neg (by omega)]
              exact h6)
            refine ⟨_, _, [.sl (some (H1.next, 0, P.cellsOf e)) len rs.length true], g1.trans g2, VRs.one ?_, rfl, ?_⟩
            · simp only [VR]
              refine ⟨pl, a, cap, by simp, rfl, rfl, by omega, by omega, fun _ => by omega, by show 0 + cap ≤ cap; omega, ?_⟩
              rcases Nat.eq_zero_or_pos cap with h | h
              · exact .inl h
              · right
                have hs := hspot h
                obtain ⟨b, o, sp⟩ := a
                simp only at hs
                subst hs
                show Addr.mk b o none = ⟨(if cap = 0 then 0 else b), o + 0 * P.cellsOf e + 0, none⟩
                rw [if_neg (by omega)]
                simp
            · exact .slice hu (by simp [DH.new]; rfl) (by omega) (by omega) fun i r hi => ((h1 i r hi).2.1).mono g2.obj
        | struct fs =>
          simp only [okTy, hu, Bool.and_eq_true] at hok
          obtain ⟨xs, m, hm, _, hlen, hxl, hxs⟩ := DataW.trod_struct hu h
          cases hm
          obtain ⟨ρ1, H1, ds, g1, v1, o1, t1⟩ := fields_in (ih n) hlen hroom fs.toList 0 hok.1 (by
            intro f hf
            obtain ⟨i, hi, he⟩ := List.getElem_of_mem hf
            have := hxs i f (by rw [← Array.getElem?_toList, List.getElem?_eq_getElem hi, he])
            have hi2 : i < xs.length := by simp at hi; omega
            exact ⟨xs[i], by rw [this, List.getElem?_eq_getElem hi2]⟩) hok.2 ρ H ha hr
          rw [List.drop_zero] at v1
          refine ⟨ρ1, H1, ds, g1, v1, o1, .struct hu (by have := VRs.length v1; omega) fun f hf => ?_⟩
          have := t1 f hf
          rwa [Nat.sub_zero] at this
        | array m e =>
          simp only [okTy, hu, Bool.and_eq_true, beq_iff_eq] at hok
          obtain ⟨xs, m', hm, _, hlen, hxl, hxs⟩ := DataW.trod_array hu h
          cases hm
          obtain ⟨ρ1, H1, ds, g1, v1, o1, t1⟩ := parts_in (ih n) hok.2 hroom (by rw [hlen, hok.1]) (by
            intro i hi
            exact ⟨xs[i]'(by omega), by rw [hxs i hi, List.getElem?_eq_getElem (by omega)]⟩) ha hr m (Nat.le_refl _)
          rw [← hok.1, ← hlen, List.take_length] at v1
          exact ⟨ρ1, H1, ds, g1, v1, o1, .array hu (by have := VRs.length v1; omega) t1⟩
        | _ => simp [okTy, hu] at hok

end
end Go.Det
