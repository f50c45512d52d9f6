/- What lies at a place, behind a name: so that a fact of another heap is told apart at once. -/
import Derived.Test.YtphnddoneocfhaaD29
namespace Go.Det
set_option linter.unusedVariables false

structure ObjAt (H : DH) (l : Nat) (o : DObj) : Prop where
  h : H.obj l = some o
theorem ob {H : DH} {l : Nat} {o : DObj} (h : H.obj l = some o) : ObjAt H l o := ⟨h⟩
structure RowAt (rs : List (List DV)) (i : Nat) (r : List DV) : Prop where
  h : rs[i]? = some r
theorem rw_ {rs : List (List DV)} {i : Nat} {r : List DV} (h : rs[i]? = some r) : RowAt rs i r := ⟨h⟩

/-- A place that there is. -/
structure Lo (H : DH) (l : Nat) : Prop where
  h : l < H.next
theorem lo {H : DH} {l : Nat} (h : l < H.next) : Lo H l := ⟨h⟩
theorem Lo.new {H : DH} {l : Nat} {o : DObj} (h : Lo H l) : Lo (H.new o) l := ⟨Nat.lt_succ_of_lt h.h⟩
theorem Lo.set {H : DH} {l m : Nat} {o : Option DObj} (h : Lo H l) : Lo (H.set m o) l := ⟨h.h⟩
theorem Lo.self {H : DH} {o : DObj} : Lo (H.new o) H.next := ⟨Nat.lt_succ_self _⟩
theorem Lo.self1 {H : DH} {o o' : DObj} : Lo ((H.new o').new o) (H.next + 1) := ⟨Nat.lt_succ_self _⟩
theorem Lo.self2 {H : DH} {o o' o'' : DObj} : Lo (((H.new o'').new o').new o) (H.next + 2) := ⟨Nat.lt_succ_self _⟩
theorem Lo.above {H H' : DH} {l : Nat} (k : Above H H') (h : Lo H l) : Lo H' l := ⟨Nat.lt_of_lt_of_le h.h k.le⟩
theorem Lo.ne {H : DH} {l : Nat} (h : Lo H l) : l ≠ H.next := Nat.ne_of_lt h.h
theorem Lo.ne1 {H : DH} {l : Nat} (h : Lo H l) : l ≠ H.next + 1 := Nat.ne_of_lt (Nat.lt_succ_of_lt h.h)
theorem Lo.ne2 {H : DH} {l : Nat} (h : Lo H l) : l ≠ H.next + 2 := Nat.ne_of_lt (Nat.lt_succ_of_lt (Nat.lt_succ_of_lt h.h))
theorem Lo.ne' {H : DH} {l : Nat} (h : Lo H l) : H.next ≠ l := h.ne.symm
theorem Lo.ne1' {H : DH} {l : Nat} (h : Lo H l) : H.next + 1 ≠ l := h.ne1.symm
theorem ne_add1 (n : Nat) : n ≠ n + 1 := by omega
theorem ne_add2 (n : Nat) : n ≠ n + 2 := by omega
theorem ne_add12 (n : Nat) : n + 1 ≠ n + 2 := by omega
theorem ne_add1' (n : Nat) : n + 1 ≠ n := by omega
theorem ne_add2' (n : Nat) : n + 2 ≠ n := by omega
theorem ne_add21 (n : Nat) : n + 2 ≠ n + 1 := by omega
theorem obj_skip_lo {H : DH} {l : Nat} {o : DObj} {x : Option DObj} (h : Lo H l) (k : H.obj l = x) : (H.new o).obj l = x := obj_skip h.ne k

section
variable {P : Program} {X : Ext} {H : DH}
theorem opD_loadA {cf : CallF} {o : Oper} {t : TypeId} {a : Operand} (ho : o.op = .load t a) {env : List DV} {l i q : Nat} (hp : evalO env a = some (.ptr (some (l, i, q)))) {ro : Bool} {sz : Nat} {rs : List (List DV)} (hobj : ObjAt H l (.rows ro sz rs))
    {r : List DV} (hr : RowAt rs i r) {v : DV} (hv : partD P t r q = some v) : opD P cf o env H = some (v, H) := opD_load ho hp hobj.h hr.h hv

theorem opD_storeA {cf : CallF} {o : Oper} {t : TypeId} {a x : Operand} (ho : o.op = .store t a x) {env : List DV} {l i q : Nat} (hp : evalO env a = some (.ptr (some (l, i, q)))) {v : DV} (hx : evalO env x = some v) {n : Nat} (hn : sizeT P t = some n) (hc : v.cells.length = n)
    {sz : Nat} {rs : List (List DV)} (hobj : ObjAt H l (.rows false sz rs)) {r : List DV} (hr : RowAt rs i r) (hl : q + v.cells.length ≤ r.length) (h1 : v.cells.all DV.one = true) : opD P cf o env H = some (undefD, H.set l (some (.rows false sz (rs.set i (splice r q v.cells))))) := by
  refine opD_store ho hp hx hn hc hobj.h (rs' := rs.set i (splice r q v.cells)) ?_
  unfold setRow
  rw [hr.h]
  simp only [hl, h1, and_self, if_true]

theorem op_load_at {o : Oper} {t : TypeId} {a : Operand} {env : List DV} {K : DV → DH → Prop} {l i q : Nat} {ro : Bool} {sz : Nat} {rs : List (List DV)} {r : List DV} {v : DV} (ho : o.op = .load t a) (hp : evalO env a = some (.ptr (some (l, i, q)))) (hobj : H.obj l = some (.rows ro sz rs))
    (hr : rs[i]? = some r) (hv : partD P t r q = some v) (hk : K v H) : OpWp P X o env H K := op_at (opD_load ho hp hobj hr hv) hk

theorem op_store_at {o : Oper} {t : TypeId} {a x : Operand} {env : List DV} {K : DV → DH → Prop} {l i q : Nat} {v : DV} {n : Nat} {sz : Nat} {rs rs' : List (List DV)} (ho : o.op = .store t a x) (hp : evalO env a = some (.ptr (some (l, i, q)))) (hx : evalO env x = some v)
    (hobj : H.obj l = some (.rows false sz rs)) (hs : setRow rs i q v.cells = some rs') (hn : sizeT P t = some n) (hc : v.cells.length = n) (hk : K undefD (H.set l (some (.rows false sz rs')))) : OpWp P X o env H K := op_at (opD_store ho hp hx hn hc hobj hs) hk

theorem op_index_at {o : Oper} {t e : TypeId} {x ix : Operand} {env : List DV} {K : DV → DH → Prop} {l i z n c : Nat} {ex : Bool} {j : IntKind} {m : Int} (ho : o.op = .indexAddr t x ix) (hx : evalO env x = some (.sl (some (l, i, z)) n c ex)) (hix : evalO env ix = some (.int j m)) (hm : 0 ≤ m ∧ m < (n : Int))
    (hu : P.underlying t = some (.slice e)) (hs : sizeT P e = some z) (hk : K (.ptr (some (l, i + m.toNat, 0))) H) : OpWp P X o env H K := op_at (opD_index ho hx hix hu hs hm) hk

theorem drawc_read_at {all : Array Oper} {bef : Array Nat} {b i : Nat} {o : Oper} {r : List Oper} {st : DSt} {K : DSt → Prop} {t : TypeId} {a : Operand} {l j q : Nat} {ro : Bool} {sz : Nat} {rs : List (List DV)} {row : List DV} {v : DV} (ho : o.op = .load t a) (hw : Region.wanted o (dyield all st.env) = true) (hp : evalO st.env a = some (.ptr (some (l, j, q)))) (hobj : st.H.obj l = some (.rows ro sz rs))
    (hr : rs[j]? = some row) (hv : partD P t row q = some v) (hb : allBits b (bef.getD i 0) = true) (h : DrawC P X all bef b (i + 1) r ⟨putD st.env o.dst v, st.H⟩ K) : DrawC P X all bef b i (o :: r) st K :=
  drawc_read hw (by rw [ho]; rfl) (by rw [ho]; rfl) hb (opD_load ho hp hobj hr hv) h

/-- What is appended to nothing is one's own. -/
theorem op_append_fresh {st e : TypeId} {z by_ : Nat} {z0 : DV} {o : Oper} {x y : Operand} {xt : TypeId} (ho : o.op = .call ⟨.builtin .append, #[x, y], #[st, xt]⟩) {env : List DV} {K : DV → DH → Prop} {d : DV} (hx : evalO env x = some (.sl none 0 0 true)) (hy : evalO env y = some d)
    (E : ElemT P st e z by_ z0) {new : List (List DV)} (hnew : appendedD P e H (P.underlying xt) d = some new) (hall : new.all (fun r => r.length == z && r.all DV.one) = true) (hlen : new.length ≤ mostD)
    (hk : ∀ s' H', Mine H H' z new s' → Above H H' → (∀ l, leads s' l → H.next ≤ l) → K s' H') : OpWp P X o env H K := by
  obtain ⟨m, rfl⟩ : ∃ m, z = m + 1 := ⟨z - 1, by have := E.pos; omega⟩
  have hc : by_ ≤ 4096 ∧ z0.cells.length = m + 1 ∧ (new.all fun r => r.length == m + 1 && r.all DV.one) = true := ⟨E.le, E.len, hall⟩
  by_cases hn : new = []
  · subst hn
    refine op_at (v := .sl none 0 0 true) (H' := H) ?_ (hk _ _ (.nil rfl) (Above.refl H) (fun l hl => by obtain ⟨_, _, _, _, _, e⟩ := hl; cases e))
    simp only [opD, ho, mover, moveD, hx, hy, if_true]
    unfold appendD
    simp only [E.u, E.s, E.b, E.zr, hnew]
    rw [if_pos hc, if_pos trivial]
  · refine op_at (v := .sl (some (H.next, 0, m + 1)) new.length new.length false) (H' := H.new (.rows false (m + 1) new)) ?_ (hk _ _ (.at (Nat.le_refl _) (Nat.lt_succ_self _) (obj_here rfl)) ((Above.refl H).new _) (fun l hl => leads_at hl (Nat.le_refl _)))
    simp only [opD, ho, mover, moveD, hx, hy, if_true]
    unfold appendD
    simp only [E.u, E.s, E.b, E.zr, hnew]
    rw [if_pos hc, if_neg hn, if_pos hlen]

/-- An operand of an index, for the code's own use. -/
structure IdxAt (v : DV) (l i z n c : Nat) (ex : Bool) : Prop where
  h : v = .sl (some (l, i, z)) n c ex
end
end Go.Det
