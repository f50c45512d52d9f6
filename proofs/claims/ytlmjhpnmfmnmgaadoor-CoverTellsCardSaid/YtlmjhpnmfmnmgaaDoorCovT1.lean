/- How a value, a heap and the slots of the deterministic reading stand for the machine's: places lead to blocks. -/
import Derived.Calls
import Derived.Below
import Derived.Test.YtlmjhpnmfmnmgaaDoorCovT0
namespace Go.Det
set_option linter.unusedVariables false
/-- Where a place lies: the block, the cell at which its first row begins, a row's cells, how many rows there is room for. -/
structure Pl where
  block : Nat
  off : Nat
  sz : Nat
  tot : Nat
abbrev Rho := Nat → Option Pl
def Pl.addr (p : Pl) (i o : Nat) : Addr := ⟨p.block, p.off + i * p.sz + o, none⟩
mutual
def VR (ρ : Rho) : DV → Value → Prop
  | .bool b, v => v = .bool b
  | .int k n, v => v = .int k n
  | .str s, v => v = .string ⟨s.toArray⟩
  | .ptr none, v => v = .pointer none
  | .ptr (some (l, i, o)), v => ∃ pl, ρ l = some pl ∧ v = .pointer (some (pl.addr i o))
  | .sl none n c _, v => n = 0 ∧ c = 0 ∧ v = .slice none 0 0
  | .sl (some (l, i, z)) n c ex, v => ∃ pl a c', ρ l = some pl ∧ pl.sz = z ∧ v = .slice (some a) n c' ∧ n ≤ c ∧ c ≤ c' ∧ (ex = true → c' = c) ∧ i + c' ≤ pl.tot ∧ (c' = 0 ∨ a = pl.addr i 0)
  | .map none, v => v = .map none
  | .map (some l), v => ∃ pl, ρ l = some pl ∧ v = .map (some pl.block)
  | .func fn first captured, v => ∃ a c, v = .func fn a c ∧ VRs ρ first a.toList ∧ VRs ρ captured c.toList
  | .nilFunc, v => v = .nilFunc
  | .iface t x, v => ∃ y, v = .iface t y ∧ VR ρ x y
  | .nilIface, v => v = .nilIface
  | .agg cs, v => cs.all DV.one = true ∧ ∃ vs, v = .agg vs ∧ VRs ρ cs vs.toList
  | .tuple cs, v => ∃ vs, v = .tuple vs ∧ VRs ρ cs vs.toList
def VRs (ρ : Rho) : List DV → List Value → Prop
  | [], vs => vs = []
  | d :: ds, vs => ∃ v r, vs = v :: r ∧ VR ρ d v ∧ VRs ρ ds r
end
/-- One reading's places among another's. -/
def Rho.le (ρ ρ' : Rho) : Prop := ∀ l pl, ρ l = some pl → ρ' l = some pl
theorem Rho.le_refl (ρ : Rho) : ρ.le ρ := fun _ _ h => h
theorem Rho.le_trans {a b c : Rho} (h : a.le b) (k : b.le c) : a.le c := fun l pl e => k l pl (h l pl e)
mutual
theorem VR.mono {ρ ρ' : Rho} (h : ρ.le ρ') : ∀ (d : DV) (v : Value), VR ρ d v → VR ρ' d v
  | .bool _, _, e => by simpa [VR] using e
  | .int _ _, _, e => by simpa [VR] using e
  | .str _, _, e => by simpa [VR] using e
  | .ptr none, _, e => by simpa [VR] using e
  | .ptr (some (l, i, o)), _, e => by
    simp only [VR] at e ⊢
    obtain ⟨pl, hp, hv⟩ := e
    exact ⟨pl, h _ _ hp, hv⟩
  | .sl none _ _ _, _, e => by simpa [VR] using e
  | .sl (some (l, i, z)) _ _ _, _, e => by
    simp only [VR] at e ⊢
    obtain ⟨pl, a, c', hp, hv⟩ := e
    exact ⟨pl, a, c', h _ _ hp, hv⟩
  | .map none, _, e => by simpa [VR] using e
  | .map (some l), _, e => by
    simp only [VR] at e ⊢
    obtain ⟨pl, hp, hv⟩ := e
    exact ⟨pl, h _ _ hp, hv⟩
  | .func fn first captured, _, e => by
    simp only [VR] at e ⊢
    obtain ⟨a, c, hv, h1, h2⟩ := e
    exact ⟨a, c, hv, VRs.mono h _ _ h1, VRs.mono h _ _ h2⟩
  | .nilFunc, _, e => by simpa [VR] using e
  | .iface t x, _, e => by
    simp only [VR] at e ⊢
    obtain ⟨y, hv, h1⟩ := e
    exact ⟨y, hv, VR.mono h _ _ h1⟩
  | .nilIface, _, e => by simpa [VR] using e
  | .agg cs, _, e => by
    simp only [VR] at e ⊢
    obtain ⟨h0, vs, hv, h1⟩ := e
    exact ⟨h0, vs, hv, VRs.mono h _ _ h1⟩
  | .tuple cs, _, e => by
    simp only [VR] at e ⊢
    obtain ⟨vs, hv, h1⟩ := e
    exact ⟨vs, hv, VRs.mono h _ _ h1⟩
theorem VRs.mono {ρ ρ' : Rho} (h : ρ.le ρ') : ∀ (d : List DV) (v : List Value), VRs ρ d v → VRs ρ' d v
  | [], _, e => by simpa [VRs] using e
  | d :: ds, _, e => by
    simp only [VRs] at e ⊢
    obtain ⟨v, r, hv, h1, h2⟩ := e
    exact ⟨v, r, hv, VR.mono h _ _ h1, VRs.mono h _ _ h2⟩
end
theorem VRs.length {ρ : Rho} : ∀ {d : List DV} {v : List Value}, VRs ρ d v → v.length = d.length
  | [], _, e => by simp only [VRs] at e; simp [e]
  | d :: ds, _, e => by
    simp only [VRs] at e
    obtain ⟨v, r, rfl, _, h2⟩ := e
    simp [VRs.length h2]
theorem VRs.get {ρ : Rho} : ∀ {d : List DV} {v : List Value} (i : Nat) {x : DV}, VRs ρ d v → d[i]? = some x → ∃ y, v[i]? = some y ∧ VR ρ x y
  | [], _, _, _, _, e => by simp at e
  | d :: ds, _, i, x, h, e => by
    simp only [VRs] at h
    obtain ⟨v, r, rfl, h1, h2⟩ := h
    cases i with
    | zero => simp at e; subst e; exact ⟨v, by simp, h1⟩
    | succ i => simp at e; simpa using VRs.get i h2 e
theorem VRs.of_get {ρ : Rho} : ∀ {d : List DV} {v : List Value}, v.length = d.length → (∀ (i : Nat) (x : DV) (y : Value), d[i]? = some x → v[i]? = some y → VR ρ x y) → VRs ρ d v
  | [], v, h, _ => by simp only [VRs]; simpa using h
  | d :: ds, [], h, _ => by simp at h
  | d :: ds, v :: vs, h, k => by
    simp only [VRs]
    exact ⟨v, vs, rfl, k 0 d v (by simp) (by simp), VRs.of_get (by simpa using h) fun i x y hx hy => k (i + 1) x y (by simpa using hx) (by simpa using hy)⟩
theorem VRs.append {ρ : Rho} : ∀ {d e : List DV} {v u : List Value}, VRs ρ d v → VRs ρ e u → VRs ρ (d ++ e) (v ++ u)
  | [], e, v, u, h, k => by simp only [VRs] at h; subst h; simpa using k
  | d :: ds, e, _, u, h, k => by
    simp only [VRs, List.cons_append] at h ⊢
    obtain ⟨v, r, rfl, h1, h2⟩ := h
    exact ⟨v, r ++ u, by simp, h1, VRs.append h2 k⟩
theorem VRs.take {ρ : Rho} {d : List DV} {v : List Value} (n : Nat) (h : VRs ρ d v) : VRs ρ (d.take n) (v.take n) := by
  refine VRs.of_get (by simp [VRs.length h]) fun i x y hx hy => ?_
  rw [List.getElem?_take] at hx hy
  split at hx
  · rw [if_pos (by assumption)] at hy
    obtain ⟨y', hy', hr⟩ := VRs.get i h hx
    rw [hy'] at hy
    cases hy
    exact hr
  · simp at hx
theorem VRs.drop {ρ : Rho} {d : List DV} {v : List Value} (n : Nat) (h : VRs ρ d v) : VRs ρ (d.drop n) (v.drop n) := by
  refine VRs.of_get (by simp [VRs.length h]) fun i x y hx hy => ?_
  rw [List.getElem?_drop] at hx hy
  obtain ⟨y', hy', hr⟩ := VRs.get _ h hx
  rw [hy'] at hy
  cases hy
  exact hr
theorem VRs.nil {ρ : Rho} : VRs ρ [] [] := by simp [VRs]
theorem VRs.cons {ρ : Rho} {d : DV} {v : Value} {ds : List DV} {vs : List Value} (h : VR ρ d v) (k : VRs ρ ds vs) : VRs ρ (d :: ds) (v :: vs) := by
  simp only [VRs]; exact ⟨v, vs, rfl, h, k⟩
theorem VRs.one {ρ : Rho} {d : DV} {v : Value} (h : VR ρ d v) : VRs ρ [d] [v] := .cons h .nil
theorem VR.cells {ρ : Rho} {d : DV} {v : Value} (h : VR ρ d v) : VRs ρ d.cells v.cells.toList := by
  cases d <;> simp only [DV.cells]
  case agg cs =>
    simp only [VR] at h
    obtain ⟨_, vs, rfl, h1⟩ := h
    exact h1
  case ptr p =>
    cases p with
    | none => have h' := h; simp only [VR] at h'; subst h'; exact .one h
    | some p => obtain ⟨l, i, o⟩ := p; have h' := h; simp only [VR] at h'; obtain ⟨pl, hp, rfl⟩ := h'; exact .one h
  case sl p n c ex =>
    cases p with
    | none => have h' := h; simp only [VR] at h'; obtain ⟨_, _, rfl⟩ := h'; exact .one h
    | some p => obtain ⟨l, i, z⟩ := p; have h' := h; simp only [VR] at h'; obtain ⟨pl, a, c', hp, hz, rfl, _⟩ := h'; exact .one h
  case map r =>
    cases r with
    | none => have h' := h; simp only [VR] at h'; subst h'; exact .one h
    | some r => have h' := h; simp only [VR] at h'; obtain ⟨pl, hp, rfl⟩ := h'; exact .one h
  case func fn a c => have h' := h; simp only [VR] at h'; obtain ⟨_, _, rfl, _⟩ := h'; exact .one h
  case iface t x => have h' := h; simp only [VR] at h'; obtain ⟨_, rfl, _⟩ := h'; exact .one h
  case tuple cs => have h' := h; simp only [VR] at h'; obtain ⟨_, rfl, _⟩ := h'; exact .one h
  all_goals (have h' := h; simp only [VR] at h'; subst h'; exact .one h)
def oneV : Value → Bool
  | .agg _ | .tuple _ => false
  | _ => true
theorem VR.one {ρ : Rho} {d : DV} {v : Value} (h : VR ρ d v) (h1 : d.one = true) : oneV v = true := by
  cases d <;> simp only [DV.one] at h1
  case agg => cases h1
  case tuple => cases h1
  case ptr p =>
    cases p with
    | none => simp only [VR] at h; subst h; rfl
    | some p => obtain ⟨l, i, o⟩ := p; simp only [VR] at h; obtain ⟨pl, hp, rfl⟩ := h; rfl
  case sl p n c ex =>
    cases p with
    | none => simp only [VR] at h; obtain ⟨_, _, rfl⟩ := h; rfl
    | some p => obtain ⟨l, i, z⟩ := p; simp only [VR] at h; obtain ⟨pl, a, c', hp, hz, rfl, _⟩ := h; rfl
  case map r =>
    cases r with
    | none => simp only [VR] at h; subst h; rfl
    | some r => simp only [VR] at h; obtain ⟨pl, hp, rfl⟩ := h; rfl
  case func fn a c => simp only [VR] at h; obtain ⟨_, _, rfl, _⟩ := h; rfl
  case iface t x => simp only [VR] at h; obtain ⟨_, rfl, _⟩ := h; rfl
  all_goals (simp only [VR] at h; subst h; rfl)
/-! ### what lies at a place -/
def cellAt (b : Option Obj) (o : Nat) : Option Value :=
  match b with
  | some (.cells c _ _) => c[o]?
  | _ => none
theorem cell?_eq (w : World) (b o : Nat) : w.cell? ⟨b, o, none⟩ = cellAt w.heap[b]? o := by
  unfold World.cell? cellAt
  simp only []
  split <;> simp_all
/-- A cell of the deterministic reading, at a cell of a block. -/
def CR (ρ : Rho) (b : Option Obj) (o : Nat) (d : DV) : Prop := d.one = true ∧ ∃ c, cellAt b o = some c ∧ VR ρ d c
structure EntR (ρ : Rho) (x : DV × DV) (e : MapEntry) : Prop where
  key : VR ρ x.1 e.key
  val : VR ρ x.2 e.val
inductive EntsR (ρ : Rho) : List (DV × DV) → List MapEntry → Prop
  | nil : EntsR ρ [] []
  | cons {x e xs es} : EntR ρ x e → EntsR ρ xs es → EntsR ρ (x :: xs) (e :: es)
/-- May all cells below be written? -/
def loose (b : Option Obj) (n : Nat) : Prop :=
  ∃ c t lo hi, b = some (.cells c t (lo, hi)) ∧ n ≤ c.size ∧ ∀ k, k < n → ¬ (lo ≤ k ∧ k < hi)
/-- A map's entries bear stamps of their own, all below its clock. -/
structure Stamps (ents : Array MapEntry) (clock : Nat) : Prop where
  old : ∀ x ∈ ents.toList, x.born < clock
  nd : (ents.toList.map (·.born)).Nodup
  ex : eraseOk = false → (∀ (i : Nat) (e : MapEntry), ents.toList[i]? = some e → e.born = i) ∧ clock = ents.toList.length
theorem Stamps.none : Stamps #[] 0 := ⟨fun x h => by simp at h, by simp, fun _ => ⟨fun i e h => by simp at h, rfl⟩⟩
theorem Stamps.push {ents : Array MapEntry} {clock : Nat} (h : Stamps ents clock) (k : Value) {v : Value} : Stamps (ents.push { key := k, val := v, born := clock }) (clock + 1) := by
  refine ⟨fun x hx => ?_, ?_, fun hE => ?_⟩
  · rw [Array.toList_push, List.mem_append, List.mem_singleton] at hx
    rcases hx with hx | rfl
    · exact Nat.lt_succ_of_lt (h.old x hx)
    · exact Nat.lt_succ_self _
  · rw [Array.toList_push, List.map_append, List.nodup_append]
    refine ⟨h.nd, by simp, fun a ha b hb e => ?_⟩
    obtain ⟨x, hx, rfl⟩ := List.mem_map.mp ha
    simp only [List.map_cons, List.map_nil, List.mem_singleton] at hb
    have := h.old x hx
    omega
  · obtain ⟨h1, h2⟩ := h.ex hE
    rw [Array.toList_push]
    refine ⟨fun i e hi => ?_, by rw [List.length_append, h2]; rfl⟩
    by_cases hlt : i < ents.toList.length
    · rw [List.getElem?_append_left hlt] at hi
      exact h1 i e hi
    · rw [List.getElem?_append_right (by omega)] at hi
      have : i - ents.toList.length = 0 := by
        have := (List.getElem?_eq_some_iff.mp hi).1
        simp only [List.length_cons, List.length_nil] at this
        omega
      rw [this] at hi
      cases hi
      show clock = i
      omega
theorem Stamps.modifyf {ents : Array MapEntry} {clock : Nat} (h : Stamps ents clock) (i : Nat) (f : MapEntry → MapEntry) (hf : ∀ e, (f e).born = e.born) : Stamps (ents.modify i f) clock := by
  have e : (ents.modify i f).toList.map (·.born) = ents.toList.map (·.born) := by
    rw [Array.toList_modify]
    apply List.ext_getElem?
    intro j
    rw [List.getElem?_map, List.getElem?_map, List.getElem?_modify]
    cases ents.toList[j]? with
    | none => rfl
    | some x => simp only [Option.map_some]; split <;> simp [hf]
  refine ⟨fun x hx => ?_, by rw [e]; exact h.nd, fun hE => ?_⟩
  · have : x.born ∈ ents.toList.map (·.born) := by rw [← e]; exact List.mem_map.mpr ⟨x, hx, rfl⟩
    obtain ⟨y, hy, hyb⟩ := List.mem_map.mp this
    rw [← hyb]; exact h.old y hy
  · obtain ⟨h1, h2⟩ := h.ex hE
    have hl := congrArg List.length e
    rw [List.length_map, List.length_map] at hl
    refine ⟨fun j x hx => ?_, by rw [h2, hl]⟩
    have hj : ((ents.modify i f).toList.map (·.born))[j]? = some x.born := by rw [List.getElem?_map, hx]; rfl
    rw [e, List.getElem?_map] at hj
    cases hy : ents.toList[j]? with
    | none => rw [hy] at hj; cases hj
    | some y =>
      rw [hy] at hj
      have := h1 j y hy
      simp only [Option.map_some, Option.some.injEq] at hj
      omega
theorem Stamps.modify {ents : Array MapEntry} {clock : Nat} (h : Stamps ents clock) (i : Nat) (k v : Value) : Stamps (ents.modify i fun e => { e with key := k, val := v }) clock := h.modifyf i _ (fun _ => rfl)
theorem Stamps.erase {ents : Array MapEntry} {clock : Nat} (h : Stamps ents clock) (hE : eraseOk = true) (i : Nat) : Stamps (ents.eraseIdxIfInBounds i) clock := by
  have hs : (ents.eraseIdxIfInBounds i).toList.Sublist ents.toList := by
    rw [Array.eraseIdxIfInBounds]
    split
    · rw [Array.toList_eraseIdx]; exact List.eraseIdx_sublist _ _
    · exact List.Sublist.refl _
  exact ⟨fun x hx => h.old x (hs.subset hx), List.Nodup.sublist (hs.map _) h.nd, fun h' => by rw [hE] at h'; cases h'⟩
def LibR (ρ : Rho) (pl : Pl) (b : Option Obj) : LibObj → Prop
  | .bld used g n => pl.off = 0 ∧ ∃ v, b = some (.cells #[if used then .pointer (some ⟨pl.block, 0, none⟩) else .pointer none, v] bldT (0, 0)) ∧ (match g with
      | none => n = 0 ∧ v = .slice none 0 0
      | some i => ∃ q, ρ i = some q ∧ v = .slice (some ⟨q.block, 0, none⟩) n q.tot)
  | .hid bs => pl.off = 0 ∧ ∃ cur, b = some (.cells cur byteT (0, 0)) ∧ bs.length ≤ pl.tot ∧ pl.tot ≤ maxLen ∧ cur.size = pl.tot ∧ cur.toList.take bs.length = bs.map fun x => .int .u8 x.toNat
theorem LibR.mono {ρ ρ' : Rho} (h : ρ.le ρ') {pl : Pl} {b : Option Obj} : ∀ {o : LibObj}, LibR ρ pl b o → LibR ρ' pl b o
  | .bld _ none _, k => k
  | .bld _ (some i) _, ⟨h1, v, h2, q, h3, h4⟩ => ⟨h1, v, h2, q, h _ _ h3, h4⟩
  | .hid _, k => k
def ObjR (ρ : Rho) (pl : Pl) (b : Option Obj) : DObj → Prop
  | .rows ro sz rs => pl.sz = sz ∧ rs.length ≤ pl.tot ∧ (∀ i r, rs[i]? = some r → r.length = sz ∧ ∀ j d, r[j]? = some d → CR ρ b (pl.off + i * sz + j) d) ∧
      (ro = false → loose b (pl.off + pl.tot * sz))
  | .map es => ∃ ents clock, b = some (.map ents clock) ∧ EntsR ρ es ents.toList ∧ Stamps ents clock
  | .iter s pos => b = some (.stringIter ⟨s.toArray⟩ pos) ∧ pl.off = 0 ∧ pl.sz = 0
  | .pin g o => b = some o ∧ pl.block = g
  | .lib k => LibR ρ pl b k
theorem CR.mono {ρ ρ' : Rho} (h : ρ.le ρ') {b : Option Obj} {o : Nat} {d : DV} (k : CR ρ b o d) : CR ρ' b o d := by
  obtain ⟨h1, c, hc, hv⟩ := k
  exact ⟨h1, c, hc, VR.mono h _ _ hv⟩
theorem EntsR.mono {ρ ρ' : Rho} (h : ρ.le ρ') {xs : List (DV × DV)} {es : List MapEntry} (k : EntsR ρ xs es) : EntsR ρ' xs es := by
  induction k with
  | nil => exact .nil
  | cons a _ ih => exact .cons ⟨VR.mono h _ _ a.key, VR.mono h _ _ a.val⟩ ih
theorem ObjR.mono {ρ ρ' : Rho} (h : ρ.le ρ') {pl : Pl} {b : Option Obj} : ∀ {o : DObj}, ObjR ρ pl b o → ObjR ρ' pl b o
  | .rows _ _ _, k => ⟨k.1, k.2.1, fun i r hr => ⟨(k.2.2.1 i r hr).1, fun j d hd => ((k.2.2.1 i r hr).2 j d hd).mono h⟩, k.2.2.2⟩
  | .map _, k => by obtain ⟨ents, clock, hb, he, hs⟩ := k; exact ⟨ents, clock, hb, he.mono h, hs⟩
  | .iter _ _, k => k
  | .pin _ _, k => k
  | .lib _, k => LibR.mono h k
/-- The heap of the deterministic reading stands for the world's. -/
structure Agree (ρ : Rho) (H : DH) (w : World) : Prop where
  low : ∀ l pl, ρ l = some pl → l < H.next
  lies : ∀ l pl, ρ l = some pl → pl.block < w.heap.size
  obj : ∀ l o, H.obj l = some o → ∃ pl, ρ l = some pl ∧ ObjR ρ pl w.heap[pl.block]? o
  apart : ∀ l l' o o' pl pl', l ≠ l' → H.obj l = some o → H.obj l' = some o' → o.ro = false → ρ l = some pl → ρ l' = some pl' → pl.block ≠ pl'.block
/-- A block of the reading's own: it may be written. -/
def Own (ρ : Rho) (H : DH) (b : Nat) : Prop := ∃ l o pl, H.obj l = some o ∧ o.ro = false ∧ ρ l = some pl ∧ pl.block = b
/-- How the draws of two worlds lie (asked for where a given contract asks for it). -/
def Dr (w w' : World) : Prop := True
theorem Dr.of {w w' : World} (h : w.drawn ≤ w'.drawn) : Dr w w' := by unfold Dr; first | exact h | trivial
theorem Dr.refl (w : World) : Dr w w := Dr.of (Nat.le_refl _)
theorem Dr.trans {a b c : World} (h : Dr a b) (k : Dr b c) : Dr a c := by unfold Dr at *; first | exact Nat.le_trans h k | trivial
/-- From one state to another: nothing that isn't the reading's own has changed; what is its own is so already, or is new. -/
structure Moves (ρ : Rho) (H : DH) (w : World) (ρ' : Rho) (H' : DH) (w' : World) : Prop where
  le : ρ.le ρ'
  agree : Agree ρ' H' w'
  os : w'.os = w.os
  tape : w'.tape = w.tape
  output : w'.output = w.output
  drawn : Dr w w'
  size : w.heap.size ≤ w'.heap.size
  same : ∀ b, b < w.heap.size → ¬ Own ρ H b → w'.heap[b]? = w.heap[b]?
  own : ∀ b, Own ρ' H' b → Own ρ H b ∨ w.heap.size ≤ b
  fresh : ∀ l pl, ρ' l = some pl → ρ l = some pl ∨ w.heap.size ≤ pl.block ∨ Own ρ H pl.block
theorem Moves.refl {ρ : Rho} {H : DH} {w : World} (h : Agree ρ H w) : Moves ρ H w ρ H w :=
  ⟨Rho.le_refl _, h, rfl, rfl, rfl, Dr.of (Nat.le_refl _), Nat.le_refl _, fun _ _ _ => rfl, fun _ h => .inl h, fun _ _ h => .inl h⟩
theorem Moves.trans {ρ ρ₁ ρ₂ : Rho} {H H₁ H₂ : DH} {w w₁ w₂ : World} (h : Moves ρ H w ρ₁ H₁ w₁) (k : Moves ρ₁ H₁ w₁ ρ₂ H₂ w₂) : Moves ρ H w ρ₂ H₂ w₂ where
  le := Rho.le_trans h.le k.le
  agree := k.agree
  os := k.os.trans h.os
  tape := k.tape.trans h.tape
  output := k.output.trans h.output
  drawn := h.drawn.trans k.drawn
  size := Nat.le_trans h.size k.size
  same := fun b hb hn => (k.same b (Nat.lt_of_lt_of_le hb h.size) fun ho => (h.own b ho).elim hn fun hs => absurd hs (by omega)).trans (h.same b hb hn)
  own := fun b hb => (k.own b hb).elim (h.own b) fun hs => .inr (Nat.le_trans h.size hs)
  fresh := fun l pl e => (k.fresh l pl e).elim (h.fresh l pl) fun hs => .inr (hs.elim (fun hs => .inl (Nat.le_trans h.size hs)) fun ho => (h.own _ ho).elim .inr .inl)
/-- A draw: nothing of memory changes. -/
theorem Agree.drew {ρ : Rho} {H : DH} {w : World} (h : Agree ρ H w) : Agree ρ H { w with drawn := w.drawn + 1 } :=
  ⟨h.low, h.lies, h.obj, h.apart⟩
theorem Moves.drew {ρ : Rho} {H : DH} {w : World} (h : Agree ρ H w) : Moves ρ H w ρ H { w with drawn := w.drawn + 1 } :=
  ⟨Rho.le_refl _, h.drew, rfl, rfl, rfl, Dr.of (Nat.le_succ _), Nat.le_refl _, fun _ _ _ => rfl, fun _ h => .inl h, fun _ _ h => .inl h⟩
/-- The slots. -/
def EnvR (ρ : Rho) (env : List DV) (tmps : Array Value) : Prop := VRs ρ env tmps.toList
/-- An operand. -/
def EvR (ρ : Rho) (ev : Ev) (e : Operand → Value) : Prop := ∀ x d, ev x = some d → VR ρ d (e x)
theorem ofScalar_sound (ρ : Rho) : ∀ {v : Value} {d : DV}, ofScalar v = some d → VR ρ d v ∧ d.one = true := by
  intro v d h
  unfold ofScalar at h
  split at h <;> cases h <;> simp [VR, DV.one]
theorem ofScalars_sound (ρ : Rho) : ∀ {vs : List Value} {ds : List DV}, ofScalars vs = some ds → VRs ρ ds vs ∧ ds.all DV.one = true
  | [], _, h => by simp only [ofScalars] at h; cases h; exact ⟨.nil, rfl⟩
  | v :: r, _, h => by
    simp only [ofScalars] at h
    split at h
    · rename_i d ds hd hds
      cases h
      obtain ⟨h1, h2⟩ := ofScalar_sound ρ hd
      obtain ⟨h3, h4⟩ := ofScalars_sound ρ hds
      exact ⟨.cons h1 h3, by simp [h2, h4]⟩
    · cases h
theorem ofValue_sound (ρ : Rho) {v : Value} {d : DV} (h : ofValue v = some d) : VR ρ d v := by
  unfold ofValue at h
  split at h
  · rename_i cs
    cases hs : ofScalars cs.toList with
    | none => rw [hs] at h; cases h
    | some ds =>
      rw [hs] at h
      cases h
      obtain ⟨h1, h2⟩ := ofScalars_sound ρ hs
      simp only [VR]
      exact ⟨h2, cs, rfl, h1⟩
  · rename_i cs
    cases hs : ofScalars cs.toList with
    | none => rw [hs] at h; cases h
    | some ds =>
      rw [hs] at h
      cases h
      simp only [VR]
      exact ⟨cs, rfl, (ofScalars_sound ρ hs).1⟩
  · exact (ofScalar_sound ρ h).1
theorem EnvR.get {ρ : Rho} {env : List DV} {tmps : Array Value} (h : EnvR ρ env tmps) (t : Nat) : VR ρ (env.getD t undefD) (tmps.getD t undef) := by
  unfold EnvR at h
  have hl := VRs.length h
  rcases Nat.lt_or_ge t env.length with hlt | hge
  · have he : env[t]? = some (env.getD t undefD) := by simp [List.getD, List.getElem?_eq_getElem hlt]
    obtain ⟨y, hy, hr⟩ := VRs.get t h he
    have : tmps.getD t undef = y := by
      rw [Array.getElem?_toList] at hy
      simp [Array.getD_eq_getD_getElem?, hy]
    rw [this]
    exact hr
  · have h1 : env.getD t undefD = undefD := by simp [List.getD, List.getElem?_eq_none hge]
    have h2 : tmps.getD t undef = undef := by
      have : tmps[t]? = none := by
        rw [Array.getElem?_eq_none_iff]
        simp at hl
        omega
      simp [Array.getD_eq_getD_getElem?, this]
    rw [h1, h2]
    simp [undefD, undef, VR, VRs]
theorem EnvR.put {ρ : Rho} {env : List DV} {tmps : Array Value} {d : DV} {v : Value} (h : EnvR ρ env tmps) (hv : VR ρ d v) (t : Nat) : EnvR ρ (env.set t d) (tmps.setIfInBounds t v) := by
  unfold EnvR at *
  have hl := VRs.length h
  refine VRs.of_get (by simpa using hl) fun i x y hx hy => ?_
  rw [List.getElem?_set] at hx
  rw [Array.getElem?_toList, Array.getElem?_setIfInBounds] at hy
  by_cases e : t = i
  · subst e
    rw [if_pos rfl] at hx hy
    split at hx
    · split at hy
      · cases hx; cases hy; exact hv
      · cases hy
    · cases hx
  · rw [if_neg e] at hx hy
    obtain ⟨y', hy', hr⟩ := VRs.get i h hx
    rw [Array.getElem?_toList] at hy'
    rw [hy'] at hy
    cases hy
    exact hr
theorem EnvR.putD {ρ : Rho} {env : List DV} {a : Act} {d : DV} {v : Value} (h : EnvR ρ env a.tmps) (hv : VR ρ d v) (dst : Option Tmp) : EnvR ρ (Det.putD env dst d) (a.put dst v).tmps := by
  cases dst with
  | none => exact h
  | some t => exact h.put hv t
end Go.Det
